/- What is proved: the reference's node, operation by operation. -/
import Derived.Test.YtddleckbbinllaaGreatDoorMRf11St
import Derived.Test.YtddleckbbinllaaGreatDoorMRf1Do
import Derived.Test.YtddleckbbinllaaGreatDoorMRef01c
import Derived.Test.YtddleckbbinllaaGreatDoorMDyn
namespace Go.Proofs.YtddleckbbinllaaGreatDoor
open Go.RowKit Go.Proofs.Heap Go.Proofs.Sch Go.Proofs.Wide

theorem wpList_eql_v {P : Program} {ops : Array Oper} {rest : List Oper} {o : Oper} {a : Act} {w : World} {Q : Exit → Act → World → Prop} (hgd : o.guard = none) (t u : TypeId) (x y : Operand) (xs ys : Array Value) (b : Bool) (ho : o.op = .binOp .eql t x y u) (hx : a.eval x = .agg xs) (hy : a.eval y = .agg ys)
    (hm : P.eqGuardType P.depth t = false) (hl : (binOp .eql t (.agg xs) (.agg ys)).run P w = .ok (.bool b) w) (h : wpList P ops Q rest (a.put o.dst (.bool b)) w) : wpList P ops Q (o :: rest) a w :=
  wpList_plain hgd fun _ hK => by
    have hg := fun (o1 o2 : Operand) => run_eqGuard_agg (P := P) (w := w) .eql t o1 o2 xs ys hm
    unfold Oper.wp execOp
    simp [ho, hx, hy, hl, hg]
    exact hK _ _ h
theorem wpList_neq_v {P : Program} {ops : Array Oper} {rest : List Oper} {o : Oper} {a : Act} {w : World} {Q : Exit → Act → World → Prop} (hgd : o.guard = none) (t u : TypeId) (x y : Operand) (xs ys : Array Value) (b : Bool) (ho : o.op = .binOp .neq t x y u) (hx : a.eval x = .agg xs) (hy : a.eval y = .agg ys)
    (hm : P.eqGuardType P.depth t = false) (hl : (binOp .neq t (.agg xs) (.agg ys)).run P w = .ok (.bool b) w) (h : wpList P ops Q rest (a.put o.dst (.bool b)) w) : wpList P ops Q (o :: rest) a w :=
  wpList_plain hgd fun _ hK => by
    have hg := fun (o1 o2 : Operand) => run_eqGuard_agg (P := P) (w := w) .neq t o1 o2 xs ys hm
    unfold Oper.wp execOp
    simp [ho, hx, hy, hl, hg]
    exact hK _ _ h
theorem opZ_err (n : Nat) : opZ (zW, n) = (zW, n) := by unfold opZ; split <;> rfl
theorem opZ_ok (x : WI) : opZ (x, 0) = (x, 0) := if_pos rfl
theorem opZ_arith {op : Int} (h : 5 ≤ op ∧ op ≤ 9) (x y z : WI) : opZ (opW op x y z) = opW op x y z := by
  unfold opZ
  by_cases h0 : (opW op x y z).2 = 0
  · rw [if_pos h0]
  · rw [if_neg h0]
    exact Prod.ext (opW_zero h h0).symm rfl
theorem form_zeroN {x : WI} (h : x.form = true) : x = zW ↔ sgnW x = 0 := by
  unfold sgnW
  constructor
  · rintro rfl; rw [if_neg (by rintro ⟨_, h2⟩; exact h2 rfl)]
  · intro h0
    by_cases hm : x.mag = 0
    · have h2 := mag0.1 hm
      obtain ⟨n, hh, l⟩ := x
      simp only at h2
      obtain ⟨rfl, rfl⟩ := h2
      unfold WI.form at h
      simp only [Bool.and_eq_true, Bool.or_eq_true, Bool.not_eq_true', decide_eq_true_eq] at h
      rcases h.2 with h3 | h3
      · subst h3; rfl
      · exact absurd (mag0.2 ⟨rfl, rfl⟩) h3
    · rw [if_pos ⟨h, hm⟩] at h0
      split at h0 <;> omega
theorem sub_zero {x : WI} (hx : x.form = true) (hf : x.fit) : subW zW x = (negW x, 0) := by
  have e1 : negW x = ofM (!x.neg) x.mag := if_pos hx
  have e2 : (ofM (!x.neg) x.mag).form = true := ofM_form _ (mag_form hf hx)
  have hz : zW.form = true := by decide
  have hm := mag_form hf hx
  unfold subW
  rw [if_pos ⟨hz, hx⟩, e1]
  unfold addW
  rw [if_pos ⟨hz, e2⟩, ofM_mag]
  have hzm : zW.mag = 0 := rfl
  rw [hzm]
  have key : ∀ b, fitW b x.mag = (ofM b x.mag, 0) := fun b => if_pos hm
  by_cases h0 : x.mag = 0
  · have e3 : (ofM (!x.neg) x.mag).neg = false := by
      show (!x.neg && decide (x.mag ≠ 0)) = false
      rw [decide_eq_false (by simp [h0])]; simp
    rw [e3, if_pos rfl, Nat.zero_add, key]
    unfold ofM
    rw [h0]
    simp
  · have e3 : (ofM (!x.neg) x.mag).neg = !x.neg := by
      show (!x.neg && decide (x.mag ≠ 0)) = !x.neg
      rw [decide_eq_true (show x.mag ≠ 0 from h0)]; simp
    rw [e3]
    cases hn : x.neg
    · rw [if_neg (by simp), if_pos (by omega), Nat.sub_zero, key]
    · rw [if_pos (by rfl), Nat.zero_add, key]; rfl
theorem cmp_swap {x y : WI} (hx : x.form = true) (hy : y.form = true) : (cmpW y x < 0 ↔ 0 < cmpW x y) ∧ (0 < cmpW y x ↔ cmpW x y < 0) := by
  rw [cmpW_form hx hy, cmpW_form hy hx]
  unfold cmpI
  constructor
  · split <;> split <;> (try split) <;> (try split) <;> omega
  · split <;> split <;> (try split) <;> (try split) <;> omega
theorem eq_wiD (x y : WI) (w : World) : (Op.equalIn 10000 30 (WV x) (WV y)).run Tryz.prog w = .ok (decide (x = y)) w := by
  rw [eq_wi]
  have : (x.neg == y.neg && ((x.hi : Int) == (y.hi : Int) && (x.lo : Int) == (y.lo : Int))) = decide (x = y) := by
    apply Bool.eq_iff_iff.2
    rw [decide_eq_true_iff]
    simp only [Bool.and_eq_true, beq_iff_eq]
    obtain ⟨n1, h1, l1⟩ := x
    obtain ⟨n2, h2, l2⟩ := y
    simp only [WI.mk.injEq]
    have e1 : ((h1 : Int) = (h2 : Int)) ↔ h1 = h2 := by omega
    have e2 : ((l1 : Int) = (l2 : Int)) ↔ l1 = l2 := by omega
    rw [e1, e2]
  rw [this]
theorem neq_wiD (x y : WI) (w : World) : (binOp .neq 30 (WV x) (WV y)).run Tryz.prog w = .ok (.bool (!decide (x = y))) w := by
  rw [run_neq_struct, eq_wiD]; rfl

set_option maxRecDepth 20000 in
set_option maxHeartbeats 8000000 in
theorem r_node5 (x y z : WI) (hx : x.fit) (hy : y.fit) (p : Option Addr) (c : Nat) (w : World) (hP : XP w w.heap.size p [x, y]) :
    Calls Tryz.prog 101 #[.int .i64 5, .slice p 2 c] w fun r w' => r = .returned (.tuple #[WV (opZ (opW 5 x y z)).1, iV (opZ (opW 5 x y z)).2]) ∧ Keep (fun _ => False) w w' := by
  have HFX := hid hx; have HFY := hid hy
  obtain ⟨R, hR⟩ : ∃ R, opZ (opW 5 x y z) = R := ⟨_, rfl⟩
  have HRE := hid hR.symm
  rw [hR]
  obtain ⟨b, off, rfl, hb, x0, x1, x2, x3, x4, x5⟩ := xp2 hP
  have HC : Hid (∀ wy, Keep (fun _ => False) w wy → wy.cell? ⟨b, off, none⟩ = some (.bool x.neg) ∧ wy.cell? ⟨b, off + 1, none⟩ = some (.int .u64 (x.hi : Int)) ∧ wy.cell? ⟨b, off + 2, none⟩ = some (.int .u64 (x.lo : Int)) ∧ wy.cell? ⟨b, off + 3, none⟩ = some (.bool y.neg) ∧ wy.cell? ⟨b, off + 4, none⟩ = some (.int .u64 (y.hi : Int)) ∧ wy.cell? ⟨b, off + 5, none⟩ = some (.int .u64 (y.lo : Int))) := hid (fun wy hk => by
    have hl := fun o => (Low.keep0 hk).cell (b := b) (o := o) hb
    exact ⟨(hl _).trans x0, (hl _).trans x1, (hl _).trans x2, (hl _).trans x3, (hl _).trans x4, (hl _).trans x5⟩)
  obtain ⟨w1, hw1, hb1, hs1, hk1⟩ := box1 w Z3 30
  have HK1 := hid hk1; have HR1 := hid hb1
  clear hb1 hs1 hk1 hR hx hy hP x0 x1 x2 x3 x4 x5 hb
  go_enter Tryz.func101, Tryz.ntmps101
  go_upto_region 1 with fail
  rw [← hw1]
  clear hw1
  obtain ⟨sr, hsr⟩ : ∃ sr, w.heap.size = sr := ⟨_, rfl⟩
  have HSR : Hid (w.heap.size ≤ sr) := hid (by omega)
  rw [hsr] at HR1 ⊢
  clear hsr
  have HRF : Hid (R = addW x y) := hid (HRE.out.trans ((opZ_arith ⟨by omega, by omega⟩ x y z).trans (by simp [opW])))
  have HD := hid (fun wy => r_do1 x y HFX.out HFY.out wy)
  obtain ⟨q, e, hqe⟩ : ∃ q e, addW x y = (q, e) := ⟨_, _, rfl⟩
  rw [hqe] at HRF HD
  clear hqe
  go_upto_region 2 with fail
  have HKd := hid HK1.out.drew
  have HRd : Hid (w1.drew.heap[sr]? = _) := HR1
  refine Plan.wp_region_pl [(false, 0, []), (false, 1, []), (false, 2, []), (false, 3, []), (false, 4, []), (false, 5, []), (false, 6, []), (false, 7, []), (true, 8, []), (false, 9, []), (false, 10, []), (true, 11, []), (false, 12, [])] (by as_aux_lemma => kernel_rfl) (by as_aux_lemma => kernel_rfl) ?_
  generalize w1.drew = wd at *
  obtain ⟨x0, x1, x2, x3, x4, x5⟩ := HC.out wd HKd.out
  iterate 8 (refine Plan.pl_st rfl ?_; go_big_quiet_step (fail); refine wpQuiet_nil ?_)
  refine Plan.pl_ac rfl ?_
  go_wp2_with fail
  refine (HD.out wd).mono ?_
  rintro r w2 ⟨rfl, hk⟩
  have HK2 := hid (HKd.out.trans hk); have HR2 := hid (hk.get HRd.out id)
  clear hk
  clear x0 x1 x2 x3 x4 x5
  go_wp2
  refine Plan.plQ_mk Plan.chk_end ?_
  iterate 2 (refine Plan.pl_st rfl ?_; go_big_quiet_step (fail); refine wpQuiet_nil ?_)
  refine Plan.pl_ac rfl ?_
  have G := hid (HRF.out)
  have f0 := free_of HR2.out 0
  have f1 := free_of HR2.out 1
  have f2 := free_of HR2.out 2
  have c0 := cell_of HR2.out (i := 0) (by rfl)
  have c1 := cell_of HR2.out (i := 1) (by rfl)
  have c2 := cell_of HR2.out (i := 2) (by rfl)
  have HKF := hid (((HK2.out.setCell_new (p := ⟨sr, 0, none⟩) (by show _ ≤ sr; have := HSR.out; omega) (.bool q.neg)).setCell_new (p := ⟨sr, 1, none⟩) (by show _ ≤ sr; have := HSR.out; omega) (.int .u64 (q.hi : Int))).setCell_new (p := ⟨sr, 2, none⟩) (by show _ ≤ sr; have := HSR.out; omega) (.int .u64 (q.lo : Int)))
  go_wp2
  refine Plan.plQ_mk Plan.chk_end ?_
  iterate 1 (refine Plan.pl_st rfl ?_; go_big_quiet_step (fail); refine wpQuiet_nil ?_)
  refine Plan.pl_end ?_
  clear f0 f1 f2 c0 c1 c2
  go_wp2
  (try simp only [Exit.inBlock, Exit.then])
  refine bodyPost_ret (results_ct rfl _ rfl (run_loadVar_row _ sr _ 30 _ _ _ (cells3 (.bool q.neg) (.int .u64 (q.hi : Int)) (.int .u64 (q.lo : Int)) HR2.out) Tryz.underlying30 rfl (by kernel_rfl))) rfl ?_
  exact ⟨by rw [G.out]; rfl, HKF.out⟩

set_option maxRecDepth 20000 in
set_option maxHeartbeats 8000000 in
theorem r_node6 (x y z : WI) (hx : x.fit) (hy : y.fit) (p : Option Addr) (c : Nat) (w : World) (hP : XP w w.heap.size p [x, y]) :
    Calls Tryz.prog 101 #[.int .i64 6, .slice p 2 c] w fun r w' => r = .returned (.tuple #[WV (opZ (opW 6 x y z)).1, iV (opZ (opW 6 x y z)).2]) ∧ Keep (fun _ => False) w w' := by
  have HFX := hid hx; have HFY := hid hy
  obtain ⟨R, hR⟩ : ∃ R, opZ (opW 6 x y z) = R := ⟨_, rfl⟩
  have HRE := hid hR.symm
  rw [hR]
  obtain ⟨b, off, rfl, hb, x0, x1, x2, x3, x4, x5⟩ := xp2 hP
  have HC : Hid (∀ wy, Keep (fun _ => False) w wy → wy.cell? ⟨b, off, none⟩ = some (.bool x.neg) ∧ wy.cell? ⟨b, off + 1, none⟩ = some (.int .u64 (x.hi : Int)) ∧ wy.cell? ⟨b, off + 2, none⟩ = some (.int .u64 (x.lo : Int)) ∧ wy.cell? ⟨b, off + 3, none⟩ = some (.bool y.neg) ∧ wy.cell? ⟨b, off + 4, none⟩ = some (.int .u64 (y.hi : Int)) ∧ wy.cell? ⟨b, off + 5, none⟩ = some (.int .u64 (y.lo : Int))) := hid (fun wy hk => by
    have hl := fun o => (Low.keep0 hk).cell (b := b) (o := o) hb
    exact ⟨(hl _).trans x0, (hl _).trans x1, (hl _).trans x2, (hl _).trans x3, (hl _).trans x4, (hl _).trans x5⟩)
  obtain ⟨w1, hw1, hb1, hs1, hk1⟩ := box1 w Z3 30
  have HK1 := hid hk1; have HR1 := hid hb1
  clear hb1 hs1 hk1 hR hx hy hP x0 x1 x2 x3 x4 x5 hb
  go_enter Tryz.func101, Tryz.ntmps101
  go_upto_region 1 with fail
  rw [← hw1]
  clear hw1
  obtain ⟨sr, hsr⟩ : ∃ sr, w.heap.size = sr := ⟨_, rfl⟩
  have HSR : Hid (w.heap.size ≤ sr) := hid (by omega)
  rw [hsr] at HR1 ⊢
  clear hsr
  have HRF : Hid (R = subW x y) := hid (HRE.out.trans ((opZ_arith ⟨by omega, by omega⟩ x y z).trans (by simp [opW])))
  have HD := hid (fun wy => r_do2 x y HFX.out HFY.out wy)
  obtain ⟨q, e, hqe⟩ : ∃ q e, subW x y = (q, e) := ⟨_, _, rfl⟩
  rw [hqe] at HRF HD
  clear hqe
  go_upto_region 2 with fail
  have HKd := hid HK1.out.drew
  have HRd : Hid (w1.drew.heap[sr]? = _) := HR1
  refine Plan.wp_region_pl [(false, 0, []), (false, 1, []), (false, 2, []), (false, 3, []), (false, 4, []), (false, 5, []), (false, 6, []), (false, 7, []), (true, 8, []), (false, 9, []), (false, 10, []), (true, 11, []), (false, 12, [])] (by as_aux_lemma => kernel_rfl) (by as_aux_lemma => kernel_rfl) ?_
  generalize w1.drew = wd at *
  obtain ⟨x0, x1, x2, x3, x4, x5⟩ := HC.out wd HKd.out
  iterate 8 (refine Plan.pl_st rfl ?_; go_big_quiet_step (fail); refine wpQuiet_nil ?_)
  refine Plan.pl_ac rfl ?_
  go_wp2_with fail
  refine (HD.out wd).mono ?_
  rintro r w2 ⟨rfl, hk⟩
  have HK2 := hid (HKd.out.trans hk); have HR2 := hid (hk.get HRd.out id)
  clear hk
  clear x0 x1 x2 x3 x4 x5
  go_wp2
  refine Plan.plQ_mk Plan.chk_end ?_
  iterate 2 (refine Plan.pl_st rfl ?_; go_big_quiet_step (fail); refine wpQuiet_nil ?_)
  refine Plan.pl_ac rfl ?_
  have G := hid (HRF.out)
  have f0 := free_of HR2.out 0
  have f1 := free_of HR2.out 1
  have f2 := free_of HR2.out 2
  have c0 := cell_of HR2.out (i := 0) (by rfl)
  have c1 := cell_of HR2.out (i := 1) (by rfl)
  have c2 := cell_of HR2.out (i := 2) (by rfl)
  have HKF := hid (((HK2.out.setCell_new (p := ⟨sr, 0, none⟩) (by show _ ≤ sr; have := HSR.out; omega) (.bool q.neg)).setCell_new (p := ⟨sr, 1, none⟩) (by show _ ≤ sr; have := HSR.out; omega) (.int .u64 (q.hi : Int))).setCell_new (p := ⟨sr, 2, none⟩) (by show _ ≤ sr; have := HSR.out; omega) (.int .u64 (q.lo : Int)))
  go_wp2
  refine Plan.plQ_mk Plan.chk_end ?_
  iterate 1 (refine Plan.pl_st rfl ?_; go_big_quiet_step (fail); refine wpQuiet_nil ?_)
  refine Plan.pl_end ?_
  clear f0 f1 f2 c0 c1 c2
  go_wp2
  (try simp only [Exit.inBlock, Exit.then])
  refine bodyPost_ret (results_ct rfl _ rfl (run_loadVar_row _ sr _ 30 _ _ _ (cells3 (.bool q.neg) (.int .u64 (q.hi : Int)) (.int .u64 (q.lo : Int)) HR2.out) Tryz.underlying30 rfl (by kernel_rfl))) rfl ?_
  exact ⟨by rw [G.out]; rfl, HKF.out⟩

set_option maxRecDepth 20000 in
set_option maxHeartbeats 8000000 in
theorem r_node7 (x y z : WI) (hx : x.fit) (hy : y.fit) (p : Option Addr) (c : Nat) (w : World) (hP : XP w w.heap.size p [x, y]) :
    Calls Tryz.prog 101 #[.int .i64 7, .slice p 2 c] w fun r w' => r = .returned (.tuple #[WV (opZ (opW 7 x y z)).1, iV (opZ (opW 7 x y z)).2]) ∧ Keep (fun _ => False) w w' := by
  have HFX := hid hx; have HFY := hid hy
  obtain ⟨R, hR⟩ : ∃ R, opZ (opW 7 x y z) = R := ⟨_, rfl⟩
  have HRE := hid hR.symm
  rw [hR]
  obtain ⟨b, off, rfl, hb, x0, x1, x2, x3, x4, x5⟩ := xp2 hP
  have HC : Hid (∀ wy, Keep (fun _ => False) w wy → wy.cell? ⟨b, off, none⟩ = some (.bool x.neg) ∧ wy.cell? ⟨b, off + 1, none⟩ = some (.int .u64 (x.hi : Int)) ∧ wy.cell? ⟨b, off + 2, none⟩ = some (.int .u64 (x.lo : Int)) ∧ wy.cell? ⟨b, off + 3, none⟩ = some (.bool y.neg) ∧ wy.cell? ⟨b, off + 4, none⟩ = some (.int .u64 (y.hi : Int)) ∧ wy.cell? ⟨b, off + 5, none⟩ = some (.int .u64 (y.lo : Int))) := hid (fun wy hk => by
    have hl := fun o => (Low.keep0 hk).cell (b := b) (o := o) hb
    exact ⟨(hl _).trans x0, (hl _).trans x1, (hl _).trans x2, (hl _).trans x3, (hl _).trans x4, (hl _).trans x5⟩)
  obtain ⟨w1, hw1, hb1, hs1, hk1⟩ := box1 w Z3 30
  have HK1 := hid hk1; have HR1 := hid hb1
  clear hb1 hs1 hk1 hR hx hy hP x0 x1 x2 x3 x4 x5 hb
  go_enter Tryz.func101, Tryz.ntmps101
  go_upto_region 1 with fail
  rw [← hw1]
  clear hw1
  obtain ⟨sr, hsr⟩ : ∃ sr, w.heap.size = sr := ⟨_, rfl⟩
  have HSR : Hid (w.heap.size ≤ sr) := hid (by omega)
  rw [hsr] at HR1 ⊢
  clear hsr
  have HRF : Hid (R = mulW x y) := hid (HRE.out.trans ((opZ_arith ⟨by omega, by omega⟩ x y z).trans (by simp [opW])))
  have HD := hid (fun wy => r_do3 x y HFX.out HFY.out wy)
  obtain ⟨q, e, hqe⟩ : ∃ q e, mulW x y = (q, e) := ⟨_, _, rfl⟩
  rw [hqe] at HRF HD
  clear hqe
  go_upto_region 2 with fail
  have HKd := hid HK1.out.drew
  have HRd : Hid (w1.drew.heap[sr]? = _) := HR1
  refine Plan.wp_region_pl [(false, 0, []), (false, 1, []), (false, 2, []), (false, 3, []), (false, 4, []), (false, 5, []), (false, 6, []), (false, 7, []), (true, 8, []), (false, 9, []), (false, 10, []), (true, 11, []), (false, 12, [])] (by as_aux_lemma => kernel_rfl) (by as_aux_lemma => kernel_rfl) ?_
  generalize w1.drew = wd at *
  obtain ⟨x0, x1, x2, x3, x4, x5⟩ := HC.out wd HKd.out
  iterate 8 (refine Plan.pl_st rfl ?_; go_big_quiet_step (fail); refine wpQuiet_nil ?_)
  refine Plan.pl_ac rfl ?_
  go_wp2_with fail
  refine (HD.out wd).mono ?_
  rintro r w2 ⟨rfl, hk⟩
  have HK2 := hid (HKd.out.trans hk); have HR2 := hid (hk.get HRd.out id)
  clear hk
  clear x0 x1 x2 x3 x4 x5
  go_wp2
  refine Plan.plQ_mk Plan.chk_end ?_
  iterate 2 (refine Plan.pl_st rfl ?_; go_big_quiet_step (fail); refine wpQuiet_nil ?_)
  refine Plan.pl_ac rfl ?_
  have G := hid (HRF.out)
  have f0 := free_of HR2.out 0
  have f1 := free_of HR2.out 1
  have f2 := free_of HR2.out 2
  have c0 := cell_of HR2.out (i := 0) (by rfl)
  have c1 := cell_of HR2.out (i := 1) (by rfl)
  have c2 := cell_of HR2.out (i := 2) (by rfl)
  have HKF := hid (((HK2.out.setCell_new (p := ⟨sr, 0, none⟩) (by show _ ≤ sr; have := HSR.out; omega) (.bool q.neg)).setCell_new (p := ⟨sr, 1, none⟩) (by show _ ≤ sr; have := HSR.out; omega) (.int .u64 (q.hi : Int))).setCell_new (p := ⟨sr, 2, none⟩) (by show _ ≤ sr; have := HSR.out; omega) (.int .u64 (q.lo : Int)))
  go_wp2
  refine Plan.plQ_mk Plan.chk_end ?_
  iterate 1 (refine Plan.pl_st rfl ?_; go_big_quiet_step (fail); refine wpQuiet_nil ?_)
  refine Plan.pl_end ?_
  clear f0 f1 f2 c0 c1 c2
  go_wp2
  (try simp only [Exit.inBlock, Exit.then])
  refine bodyPost_ret (results_ct rfl _ rfl (run_loadVar_row _ sr _ 30 _ _ _ (cells3 (.bool q.neg) (.int .u64 (q.hi : Int)) (.int .u64 (q.lo : Int)) HR2.out) Tryz.underlying30 rfl (by kernel_rfl))) rfl ?_
  exact ⟨by rw [G.out]; rfl, HKF.out⟩

set_option maxRecDepth 20000 in
set_option maxHeartbeats 8000000 in
theorem r_node8 (x y z : WI) (hx : x.fit) (hy : y.fit) (p : Option Addr) (c : Nat) (w : World) (hP : XP w w.heap.size p [x, y]) :
    Calls Tryz.prog 101 #[.int .i64 8, .slice p 2 c] w fun r w' => r = .returned (.tuple #[WV (opZ (opW 8 x y z)).1, iV (opZ (opW 8 x y z)).2]) ∧ Keep (fun _ => False) w w' := by
  have HFX := hid hx; have HFY := hid hy
  obtain ⟨R, hR⟩ : ∃ R, opZ (opW 8 x y z) = R := ⟨_, rfl⟩
  have HRE := hid hR.symm
  rw [hR]
  obtain ⟨b, off, rfl, hb, x0, x1, x2, x3, x4, x5⟩ := xp2 hP
  have HC : Hid (∀ wy, Keep (fun _ => False) w wy → wy.cell? ⟨b, off, none⟩ = some (.bool x.neg) ∧ wy.cell? ⟨b, off + 1, none⟩ = some (.int .u64 (x.hi : Int)) ∧ wy.cell? ⟨b, off + 2, none⟩ = some (.int .u64 (x.lo : Int)) ∧ wy.cell? ⟨b, off + 3, none⟩ = some (.bool y.neg) ∧ wy.cell? ⟨b, off + 4, none⟩ = some (.int .u64 (y.hi : Int)) ∧ wy.cell? ⟨b, off + 5, none⟩ = some (.int .u64 (y.lo : Int))) := hid (fun wy hk => by
    have hl := fun o => (Low.keep0 hk).cell (b := b) (o := o) hb
    exact ⟨(hl _).trans x0, (hl _).trans x1, (hl _).trans x2, (hl _).trans x3, (hl _).trans x4, (hl _).trans x5⟩)
  obtain ⟨w1, hw1, hb1, hs1, hk1⟩ := box1 w Z3 30
  have HK1 := hid hk1; have HR1 := hid hb1
  clear hb1 hs1 hk1 hR hx hy hP x0 x1 x2 x3 x4 x5 hb
  go_enter Tryz.func101, Tryz.ntmps101
  go_upto_region 1 with fail
  rw [← hw1]
  clear hw1
  obtain ⟨sr, hsr⟩ : ∃ sr, w.heap.size = sr := ⟨_, rfl⟩
  have HSR : Hid (w.heap.size ≤ sr) := hid (by omega)
  rw [hsr] at HR1 ⊢
  clear hsr
  have HRF : Hid (R = quoW x y) := hid (HRE.out.trans ((opZ_arith ⟨by omega, by omega⟩ x y z).trans (by simp [opW])))
  have HD := hid (fun wy => r_do4 x y HFX.out HFY.out wy)
  obtain ⟨q, e, hqe⟩ : ∃ q e, quoW x y = (q, e) := ⟨_, _, rfl⟩
  rw [hqe] at HRF HD
  clear hqe
  go_upto_region 2 with fail
  have HKd := hid HK1.out.drew
  have HRd : Hid (w1.drew.heap[sr]? = _) := HR1
  refine Plan.wp_region_pl [(false, 0, []), (false, 1, []), (false, 2, []), (false, 3, []), (false, 4, []), (false, 5, []), (false, 6, []), (false, 7, []), (true, 8, []), (false, 9, []), (false, 10, []), (true, 11, []), (false, 12, [])] (by as_aux_lemma => kernel_rfl) (by as_aux_lemma => kernel_rfl) ?_
  generalize w1.drew = wd at *
  obtain ⟨x0, x1, x2, x3, x4, x5⟩ := HC.out wd HKd.out
  iterate 8 (refine Plan.pl_st rfl ?_; go_big_quiet_step (fail); refine wpQuiet_nil ?_)
  refine Plan.pl_ac rfl ?_
  go_wp2_with fail
  refine (HD.out wd).mono ?_
  rintro r w2 ⟨rfl, hk⟩
  have HK2 := hid (HKd.out.trans hk); have HR2 := hid (hk.get HRd.out id)
  clear hk
  clear x0 x1 x2 x3 x4 x5
  go_wp2
  refine Plan.plQ_mk Plan.chk_end ?_
  iterate 2 (refine Plan.pl_st rfl ?_; go_big_quiet_step (fail); refine wpQuiet_nil ?_)
  refine Plan.pl_ac rfl ?_
  have G := hid (HRF.out)
  have f0 := free_of HR2.out 0
  have f1 := free_of HR2.out 1
  have f2 := free_of HR2.out 2
  have c0 := cell_of HR2.out (i := 0) (by rfl)
  have c1 := cell_of HR2.out (i := 1) (by rfl)
  have c2 := cell_of HR2.out (i := 2) (by rfl)
  have HKF := hid (((HK2.out.setCell_new (p := ⟨sr, 0, none⟩) (by show _ ≤ sr; have := HSR.out; omega) (.bool q.neg)).setCell_new (p := ⟨sr, 1, none⟩) (by show _ ≤ sr; have := HSR.out; omega) (.int .u64 (q.hi : Int))).setCell_new (p := ⟨sr, 2, none⟩) (by show _ ≤ sr; have := HSR.out; omega) (.int .u64 (q.lo : Int)))
  go_wp2
  refine Plan.plQ_mk Plan.chk_end ?_
  iterate 1 (refine Plan.pl_st rfl ?_; go_big_quiet_step (fail); refine wpQuiet_nil ?_)
  refine Plan.pl_end ?_
  clear f0 f1 f2 c0 c1 c2
  go_wp2
  (try simp only [Exit.inBlock, Exit.then])
  refine bodyPost_ret (results_ct rfl _ rfl (run_loadVar_row _ sr _ 30 _ _ _ (cells3 (.bool q.neg) (.int .u64 (q.hi : Int)) (.int .u64 (q.lo : Int)) HR2.out) Tryz.underlying30 rfl (by kernel_rfl))) rfl ?_
  exact ⟨by rw [G.out]; rfl, HKF.out⟩

set_option maxRecDepth 20000 in
set_option maxHeartbeats 8000000 in
theorem r_node9 (x y z : WI) (hx : x.fit) (hy : y.fit) (p : Option Addr) (c : Nat) (w : World) (hP : XP w w.heap.size p [x, y]) :
    Calls Tryz.prog 101 #[.int .i64 9, .slice p 2 c] w fun r w' => r = .returned (.tuple #[WV (opZ (opW 9 x y z)).1, iV (opZ (opW 9 x y z)).2]) ∧ Keep (fun _ => False) w w' := by
  have HFX := hid hx; have HFY := hid hy
  obtain ⟨R, hR⟩ : ∃ R, opZ (opW 9 x y z) = R := ⟨_, rfl⟩
  have HRE := hid hR.symm
  rw [hR]
  obtain ⟨b, off, rfl, hb, x0, x1, x2, x3, x4, x5⟩ := xp2 hP
  have HC : Hid (∀ wy, Keep (fun _ => False) w wy → wy.cell? ⟨b, off, none⟩ = some (.bool x.neg) ∧ wy.cell? ⟨b, off + 1, none⟩ = some (.int .u64 (x.hi : Int)) ∧ wy.cell? ⟨b, off + 2, none⟩ = some (.int .u64 (x.lo : Int)) ∧ wy.cell? ⟨b, off + 3, none⟩ = some (.bool y.neg) ∧ wy.cell? ⟨b, off + 4, none⟩ = some (.int .u64 (y.hi : Int)) ∧ wy.cell? ⟨b, off + 5, none⟩ = some (.int .u64 (y.lo : Int))) := hid (fun wy hk => by
    have hl := fun o => (Low.keep0 hk).cell (b := b) (o := o) hb
    exact ⟨(hl _).trans x0, (hl _).trans x1, (hl _).trans x2, (hl _).trans x3, (hl _).trans x4, (hl _).trans x5⟩)
  obtain ⟨w1, hw1, hb1, hs1, hk1⟩ := box1 w Z3 30
  have HK1 := hid hk1; have HR1 := hid hb1
  clear hb1 hs1 hk1 hR hx hy hP x0 x1 x2 x3 x4 x5 hb
  go_enter Tryz.func101, Tryz.ntmps101
  go_upto_region 1 with fail
  rw [← hw1]
  clear hw1
  obtain ⟨sr, hsr⟩ : ∃ sr, w.heap.size = sr := ⟨_, rfl⟩
  have HSR : Hid (w.heap.size ≤ sr) := hid (by omega)
  rw [hsr] at HR1 ⊢
  clear hsr
  have HRF : Hid (R = remW x y) := hid (HRE.out.trans ((opZ_arith ⟨by omega, by omega⟩ x y z).trans (by simp [opW])))
  have HD := hid (fun wy => r_do5 x y HFX.out HFY.out wy)
  obtain ⟨q, e, hqe⟩ : ∃ q e, remW x y = (q, e) := ⟨_, _, rfl⟩
  rw [hqe] at HRF HD
  clear hqe
  go_upto_region 2 with fail
  have HKd := hid HK1.out.drew
  have HRd : Hid (w1.drew.heap[sr]? = _) := HR1
  refine Plan.wp_region_pl [(false, 0, []), (false, 1, []), (false, 2, []), (false, 3, []), (false, 4, []), (false, 5, []), (false, 6, []), (false, 7, []), (true, 8, []), (false, 9, []), (false, 10, []), (true, 11, []), (false, 12, [])] (by as_aux_lemma => kernel_rfl) (by as_aux_lemma => kernel_rfl) ?_
  generalize w1.drew = wd at *
  obtain ⟨x0, x1, x2, x3, x4, x5⟩ := HC.out wd HKd.out
  iterate 8 (refine Plan.pl_st rfl ?_; go_big_quiet_step (fail); refine wpQuiet_nil ?_)
  refine Plan.pl_ac rfl ?_
  go_wp2_with fail
  refine (HD.out wd).mono ?_
  rintro r w2 ⟨rfl, hk⟩
  have HK2 := hid (HKd.out.trans hk); have HR2 := hid (hk.get HRd.out id)
  clear hk
  clear x0 x1 x2 x3 x4 x5
  go_wp2
  refine Plan.plQ_mk Plan.chk_end ?_
  iterate 2 (refine Plan.pl_st rfl ?_; go_big_quiet_step (fail); refine wpQuiet_nil ?_)
  refine Plan.pl_ac rfl ?_
  have G := hid (HRF.out)
  have f0 := free_of HR2.out 0
  have f1 := free_of HR2.out 1
  have f2 := free_of HR2.out 2
  have c0 := cell_of HR2.out (i := 0) (by rfl)
  have c1 := cell_of HR2.out (i := 1) (by rfl)
  have c2 := cell_of HR2.out (i := 2) (by rfl)
  have HKF := hid (((HK2.out.setCell_new (p := ⟨sr, 0, none⟩) (by show _ ≤ sr; have := HSR.out; omega) (.bool q.neg)).setCell_new (p := ⟨sr, 1, none⟩) (by show _ ≤ sr; have := HSR.out; omega) (.int .u64 (q.hi : Int))).setCell_new (p := ⟨sr, 2, none⟩) (by show _ ≤ sr; have := HSR.out; omega) (.int .u64 (q.lo : Int)))
  go_wp2
  refine Plan.plQ_mk Plan.chk_end ?_
  iterate 1 (refine Plan.pl_st rfl ?_; go_big_quiet_step (fail); refine wpQuiet_nil ?_)
  refine Plan.pl_end ?_
  clear f0 f1 f2 c0 c1 c2
  go_wp2
  (try simp only [Exit.inBlock, Exit.then])
  refine bodyPost_ret (results_ct rfl _ rfl (run_loadVar_row _ sr _ 30 _ _ _ (cells3 (.bool q.neg) (.int .u64 (q.hi : Int)) (.int .u64 (q.lo : Int)) HR2.out) Tryz.underlying30 rfl (by kernel_rfl))) rfl ?_
  exact ⟨by rw [G.out]; rfl, HKF.out⟩

set_option maxRecDepth 20000 in
set_option maxHeartbeats 8000000 in
theorem r_node10 (x y z : WI) (hx : x.fit) (hy : y.fit) (p : Option Addr) (c : Nat) (w : World) (hP : XP w w.heap.size p [x]) :
    Calls Tryz.prog 101 #[.int .i64 10, .slice p 1 c] w fun r w' => r = .returned (.tuple #[WV (opZ (opW 10 x y z)).1, iV (opZ (opW 10 x y z)).2]) ∧ Keep (fun _ => False) w w' := by
  have HFX := hid hx; have HFY := hid hy
  obtain ⟨R, hR⟩ : ∃ R, opZ (opW 10 x y z) = R := ⟨_, rfl⟩
  have HRE := hid hR.symm
  rw [hR]
  obtain ⟨b, off, rfl, hb, x0, x1, x2⟩ := xp1 hP
  have HC : Hid (∀ wy, Keep (fun _ => False) w wy → wy.cell? ⟨b, off, none⟩ = some (.bool x.neg) ∧ wy.cell? ⟨b, off + 1, none⟩ = some (.int .u64 (x.hi : Int)) ∧ wy.cell? ⟨b, off + 2, none⟩ = some (.int .u64 (x.lo : Int))) := hid (fun wy hk => by
    have hl := fun o => (Low.keep0 hk).cell (b := b) (o := o) hb
    exact ⟨(hl _).trans x0, (hl _).trans x1, (hl _).trans x2⟩)
  obtain ⟨w1, hw1, hb1, hs1, hk1⟩ := box1 w Z3 30
  have HK1 := hid hk1; have HR1 := hid hb1
  clear hb1 hs1 hk1 hR hx hy hP x0 x1 x2 hb
  go_enter Tryz.func101, Tryz.ntmps101
  go_upto_region 1 with fail
  rw [← hw1]
  clear hw1
  obtain ⟨sr, hsr⟩ : ∃ sr, w.heap.size = sr := ⟨_, rfl⟩
  have HSR : Hid (w.heap.size ≤ sr) := hid (by omega)
  rw [hsr] at HR1 ⊢
  clear hsr
  obtain ⟨x0, x1, x2⟩ := HC.out w1 HK1.out
  go_wp2_with fail
  refine (r_good x HFX.out w1).mono ?_
  rintro r w2 ⟨rfl, hk⟩
  have HK2 := hid (HK1.out.trans hk); have HR2 := hid (hk.get HR1.out id)
  clear hk x0 x1 x2
  obtain ⟨x0, x1, x2⟩ := HC.out w2 HK2.out
  cases hf : x.form
  · have G := hid (HRE.out.trans ((congrArg opZ (show opW 10 x y z = (zW, 1) by simp [opW, hf])).trans (opZ_err 1)))
    clear hf
    have f0 := free_of HR2.out 0
    have f1 := free_of HR2.out 1
    have f2 := free_of HR2.out 2
    have c0 := cell_of HR2.out (i := 0) (by rfl)
    have c1 := cell_of HR2.out (i := 1) (by rfl)
    have c2 := cell_of HR2.out (i := 2) (by rfl)
    have HKF := hid (((HK2.out.setCell_new (p := ⟨sr, 0, none⟩) (by show _ ≤ sr; have := HSR.out; omega) (.bool false)).setCell_new (p := ⟨sr, 1, none⟩) (by show _ ≤ sr; have := HSR.out; omega) (.int .u64 0)).setCell_new (p := ⟨sr, 2, none⟩) (by show _ ≤ sr; have := HSR.out; omega) (.int .u64 0))
    go_wp2
    (try simp only [Exit.inBlock, Exit.then])
    refine bodyPost_ret (results_ct rfl _ rfl (run_loadVar_row _ sr _ 30 _ _ _ (cells3 (.bool false) (.int .u64 0) (.int .u64 0) HR2.out) Tryz.underlying30 rfl (by kernel_rfl))) rfl ?_
    exact ⟨by rw [G.out]; rfl, HKF.out⟩
  have HPX := hid hf
  have HRF : Hid (R = subW zW x) := hid (HRE.out.trans (by rw [sub_zero hf HFX.out, show opW 10 x y z = (negW x, 0) by simp [opW, hf]]; exact opZ_ok _))
  have HD := hid (fun wy => r_do2 zW x zW_fit HFX.out wy)
  obtain ⟨q, e, hqe⟩ : ∃ q e, subW zW x = (q, e) := ⟨_, _, rfl⟩
  rw [hqe] at HRF HD
  clear hqe hf
  go_wp2_with fail
  refine (HD.out w2).mono ?_
  rintro r w4 ⟨rfl, hk⟩
  have HK4 := hid (HK2.out.trans hk); have HR4 := hid (hk.get HR2.out id)
  clear hk
  clear x0 x1 x2
  have G := hid (HRF.out)
  have f0 := free_of HR4.out 0
  have f1 := free_of HR4.out 1
  have f2 := free_of HR4.out 2
  have c0 := cell_of HR4.out (i := 0) (by rfl)
  have c1 := cell_of HR4.out (i := 1) (by rfl)
  have c2 := cell_of HR4.out (i := 2) (by rfl)
  have HKF := hid (((HK4.out.setCell_new (p := ⟨sr, 0, none⟩) (by show _ ≤ sr; have := HSR.out; omega) (.bool q.neg)).setCell_new (p := ⟨sr, 1, none⟩) (by show _ ≤ sr; have := HSR.out; omega) (.int .u64 (q.hi : Int))).setCell_new (p := ⟨sr, 2, none⟩) (by show _ ≤ sr; have := HSR.out; omega) (.int .u64 (q.lo : Int)))
  go_wp2
  (try simp only [Exit.inBlock, Exit.then])
  refine bodyPost_ret (results_ct rfl _ rfl (run_loadVar_row _ sr _ 30 _ _ _ (cells3 (.bool q.neg) (.int .u64 (q.hi : Int)) (.int .u64 (q.lo : Int)) HR4.out) Tryz.underlying30 rfl (by kernel_rfl))) rfl ?_
  exact ⟨by rw [G.out]; rfl, HKF.out⟩

set_option maxRecDepth 20000 in
set_option maxHeartbeats 8000000 in
theorem r_node11 (x y z : WI) (hx : x.fit) (hy : y.fit) (p : Option Addr) (c : Nat) (w : World) (hP : XP w w.heap.size p [x, y]) :
    Calls Tryz.prog 101 #[.int .i64 11, .slice p 2 c] w fun r w' => r = .returned (.tuple #[WV (opZ (opW 11 x y z)).1, iV (opZ (opW 11 x y z)).2]) ∧ Keep (fun _ => False) w w' := by
  have HFX := hid hx; have HFY := hid hy
  obtain ⟨R, hR⟩ : ∃ R, opZ (opW 11 x y z) = R := ⟨_, rfl⟩
  have HRE := hid hR.symm
  rw [hR]
  obtain ⟨b, off, rfl, hb, x0, x1, x2, x3, x4, x5⟩ := xp2 hP
  have HC : Hid (∀ wy, Keep (fun _ => False) w wy → wy.cell? ⟨b, off, none⟩ = some (.bool x.neg) ∧ wy.cell? ⟨b, off + 1, none⟩ = some (.int .u64 (x.hi : Int)) ∧ wy.cell? ⟨b, off + 2, none⟩ = some (.int .u64 (x.lo : Int)) ∧ wy.cell? ⟨b, off + 3, none⟩ = some (.bool y.neg) ∧ wy.cell? ⟨b, off + 4, none⟩ = some (.int .u64 (y.hi : Int)) ∧ wy.cell? ⟨b, off + 5, none⟩ = some (.int .u64 (y.lo : Int))) := hid (fun wy hk => by
    have hl := fun o => (Low.keep0 hk).cell (b := b) (o := o) hb
    exact ⟨(hl _).trans x0, (hl _).trans x1, (hl _).trans x2, (hl _).trans x3, (hl _).trans x4, (hl _).trans x5⟩)
  obtain ⟨w1, hw1, hb1, hs1, hk1⟩ := box1 w Z3 30
  have HK1 := hid hk1; have HR1 := hid hb1
  clear hb1 hs1 hk1 hR hx hy hP x0 x1 x2 x3 x4 x5 hb
  go_enter Tryz.func101, Tryz.ntmps101
  go_upto_region 1 with fail
  rw [← hw1]
  clear hw1
  obtain ⟨sr, hsr⟩ : ∃ sr, w.heap.size = sr := ⟨_, rfl⟩
  have HSR : Hid (w.heap.size ≤ sr) := hid (by omega)
  rw [hsr] at HR1 ⊢
  clear hsr
  obtain ⟨x0, x1, x2, x3, x4, x5⟩ := HC.out w1 HK1.out
  go_wp2_with fail
  refine (r_good x HFX.out w1).mono ?_
  rintro r w2 ⟨rfl, hk⟩
  have HK2 := hid (HK1.out.trans hk); have HR2 := hid (hk.get HR1.out id)
  clear hk x0 x1 x2 x3 x4 x5
  obtain ⟨x0, x1, x2, x3, x4, x5⟩ := HC.out w2 HK2.out
  cases hf : x.form
  · have G := hid (HRE.out.trans ((congrArg opZ (show opW 11 x y z = (zW, 1) by simp [opW, hf])).trans (opZ_err 1)))
    clear hf
    have f0 := free_of HR2.out 0
    have f1 := free_of HR2.out 1
    have f2 := free_of HR2.out 2
    have c0 := cell_of HR2.out (i := 0) (by rfl)
    have c1 := cell_of HR2.out (i := 1) (by rfl)
    have c2 := cell_of HR2.out (i := 2) (by rfl)
    have HKF := hid (((HK2.out.setCell_new (p := ⟨sr, 0, none⟩) (by show _ ≤ sr; have := HSR.out; omega) (.bool false)).setCell_new (p := ⟨sr, 1, none⟩) (by show _ ≤ sr; have := HSR.out; omega) (.int .u64 0)).setCell_new (p := ⟨sr, 2, none⟩) (by show _ ≤ sr; have := HSR.out; omega) (.int .u64 0))
    go_wp2
    (try simp only [Exit.inBlock, Exit.then])
    refine bodyPost_ret (results_ct rfl _ rfl (run_loadVar_row _ sr _ 30 _ _ _ (cells3 (.bool false) (.int .u64 0) (.int .u64 0) HR2.out) Tryz.underlying30 rfl (by kernel_rfl))) rfl ?_
    exact ⟨by rw [G.out]; rfl, HKF.out⟩
  have HPX := hid hf
  go_wp2_with fail
  refine (r_good y HFY.out w2).mono ?_
  rintro r w3 ⟨rfl, hk⟩
  have HK3 := hid (HK2.out.trans hk); have HR3 := hid (hk.get HR2.out id)
  clear hk x0 x1 x2 x3 x4 x5
  obtain ⟨x0, x1, x2, x3, x4, x5⟩ := HC.out w3 HK3.out
  cases hg : y.form
  · have G := hid (HRE.out.trans ((congrArg opZ (show opW 11 x y z = (zW, 1) by simp [opW, hg])).trans (opZ_err 1)))
    clear hf hg
    have f0 := free_of HR3.out 0
    have f1 := free_of HR3.out 1
    have f2 := free_of HR3.out 2
    have c0 := cell_of HR3.out (i := 0) (by rfl)
    have c1 := cell_of HR3.out (i := 1) (by rfl)
    have c2 := cell_of HR3.out (i := 2) (by rfl)
    have HKF := hid (((HK3.out.setCell_new (p := ⟨sr, 0, none⟩) (by show _ ≤ sr; have := HSR.out; omega) (.bool false)).setCell_new (p := ⟨sr, 1, none⟩) (by show _ ≤ sr; have := HSR.out; omega) (.int .u64 0)).setCell_new (p := ⟨sr, 2, none⟩) (by show _ ≤ sr; have := HSR.out; omega) (.int .u64 0))
    go_wp2
    (try simp only [Exit.inBlock, Exit.then])
    refine bodyPost_ret (results_ct rfl _ rfl (run_loadVar_row _ sr _ 30 _ _ _ (cells3 (.bool false) (.int .u64 0) (.int .u64 0) HR3.out) Tryz.underlying30 rfl (by kernel_rfl))) rfl ?_
    exact ⟨by rw [G.out]; rfl, HKF.out⟩
  have HPY := hid hg
  have HSW := hid (cmp_swap hf hg)
  have HRF : Hid (R = (if cmpW x y ≤ 0 then x else y, 0)) := hid (HRE.out.trans (by rw [show opW 11 x y z = (if cmpW x y ≤ 0 then x else y, 0) by simp [opW, hf, hg]]; exact opZ_ok _))
  have HD := hid (fun wy => r_cmp y x HFY.out HFX.out hg hf wy)
  obtain ⟨cc, hcc⟩ : ∃ cc, cmpW y x = cc := ⟨_, rfl⟩
  rw [hcc] at HD HSW
  clear hcc hf hg
  go_upto_region 15 with fail
  have HKd := hid HK3.out.drew
  have HRd : Hid (w3.drew.heap[sr]? = _) := HR3
  clear x0 x1 x2 x3 x4 x5
  refine Plan.wp_region_pl [(false, 0, []), (false, 1, []), (false, 2, []), (false, 3, []), (false, 4, []), (false, 5, []), (true, 6, []), (false, 7, [])] (by as_aux_lemma => kernel_rfl) (by as_aux_lemma => kernel_rfl) ?_
  generalize w3.drew = wd at *
  obtain ⟨x0, x1, x2, x3, x4, x5⟩ := HC.out wd HKd.out
  iterate 6 (refine Plan.pl_st rfl ?_; go_big_quiet_step (fail); refine wpQuiet_nil ?_)
  refine Plan.pl_ac rfl ?_
  go_wp2_with fail
  refine (HD.out wd).mono ?_
  rintro r w4 ⟨rfl, hk⟩
  have HK4 := hid (HKd.out.trans hk); have HR4 := hid (hk.get HRd.out id)
  clear hk x0 x1 x2 x3 x4 x5
  obtain ⟨x0, x1, x2, x3, x4, x5⟩ := HC.out w4 HK4.out
  go_wp2
  refine Plan.plQ_mk Plan.chk_end ?_
  iterate 1 (refine Plan.pl_st rfl ?_; go_big_quiet_step (fail); refine wpQuiet_nil ?_)
  refine Plan.pl_end ?_
  by_cases hc : cc < 0
  · have q1 : decide (cc < 0) = true := decide_eq_true hc
    have G := hid (HRF.out.trans (by rw [if_neg (by have := HSW.out.1.1 hc; omega)]))
    have f0 := free_of HR4.out 0
    have f1 := free_of HR4.out 1
    have f2 := free_of HR4.out 2
    have c0 := cell_of HR4.out (i := 0) (by rfl)
    have c1 := cell_of HR4.out (i := 1) (by rfl)
    have c2 := cell_of HR4.out (i := 2) (by rfl)
    have HKF := hid (((HK4.out.setCell_new (p := ⟨sr, 0, none⟩) (by show _ ≤ sr; have := HSR.out; omega) (.bool y.neg)).setCell_new (p := ⟨sr, 1, none⟩) (by show _ ≤ sr; have := HSR.out; omega) (.int .u64 (y.hi : Int))).setCell_new (p := ⟨sr, 2, none⟩) (by show _ ≤ sr; have := HSR.out; omega) (.int .u64 (y.lo : Int)))
    go_wp2
    all_goals first
      | (exfalso; omega)
      | ((try simp only [Exit.inBlock, Exit.then])
         refine bodyPost_ret (results_ct rfl _ rfl (run_loadVar_row _ sr _ 30 _ _ _ (cells3 (.bool y.neg) (.int .u64 (y.hi : Int)) (.int .u64 (y.lo : Int)) HR4.out) Tryz.underlying30 rfl (by kernel_rfl))) rfl ?_
         exact ⟨by rw [G.out]; rfl, HKF.out⟩)
  have q1 : decide (cc < 0) = false := decide_eq_false hc
  have G := hid (HRF.out.trans (by rw [if_pos (by have := mt HSW.out.1.2 hc; omega)]))
  have f0 := free_of HR4.out 0
  have f1 := free_of HR4.out 1
  have f2 := free_of HR4.out 2
  have c0 := cell_of HR4.out (i := 0) (by rfl)
  have c1 := cell_of HR4.out (i := 1) (by rfl)
  have c2 := cell_of HR4.out (i := 2) (by rfl)
  have HKF := hid (((HK4.out.setCell_new (p := ⟨sr, 0, none⟩) (by show _ ≤ sr; have := HSR.out; omega) (.bool x.neg)).setCell_new (p := ⟨sr, 1, none⟩) (by show _ ≤ sr; have := HSR.out; omega) (.int .u64 (x.hi : Int))).setCell_new (p := ⟨sr, 2, none⟩) (by show _ ≤ sr; have := HSR.out; omega) (.int .u64 (x.lo : Int)))
  go_wp2
  all_goals first
    | (exfalso; omega)
    | ((try simp only [Exit.inBlock, Exit.then])
       refine bodyPost_ret (results_ct rfl _ rfl (run_loadVar_row _ sr _ 30 _ _ _ (cells3 (.bool x.neg) (.int .u64 (x.hi : Int)) (.int .u64 (x.lo : Int)) HR4.out) Tryz.underlying30 rfl (by kernel_rfl))) rfl ?_
       exact ⟨by rw [G.out]; rfl, HKF.out⟩)

set_option maxRecDepth 20000 in
set_option maxHeartbeats 8000000 in
theorem r_node12 (x y z : WI) (hx : x.fit) (hy : y.fit) (p : Option Addr) (c : Nat) (w : World) (hP : XP w w.heap.size p [x, y]) :
    Calls Tryz.prog 101 #[.int .i64 12, .slice p 2 c] w fun r w' => r = .returned (.tuple #[WV (opZ (opW 12 x y z)).1, iV (opZ (opW 12 x y z)).2]) ∧ Keep (fun _ => False) w w' := by
  have HFX := hid hx; have HFY := hid hy
  obtain ⟨R, hR⟩ : ∃ R, opZ (opW 12 x y z) = R := ⟨_, rfl⟩
  have HRE := hid hR.symm
  rw [hR]
  obtain ⟨b, off, rfl, hb, x0, x1, x2, x3, x4, x5⟩ := xp2 hP
  have HC : Hid (∀ wy, Keep (fun _ => False) w wy → wy.cell? ⟨b, off, none⟩ = some (.bool x.neg) ∧ wy.cell? ⟨b, off + 1, none⟩ = some (.int .u64 (x.hi : Int)) ∧ wy.cell? ⟨b, off + 2, none⟩ = some (.int .u64 (x.lo : Int)) ∧ wy.cell? ⟨b, off + 3, none⟩ = some (.bool y.neg) ∧ wy.cell? ⟨b, off + 4, none⟩ = some (.int .u64 (y.hi : Int)) ∧ wy.cell? ⟨b, off + 5, none⟩ = some (.int .u64 (y.lo : Int))) := hid (fun wy hk => by
    have hl := fun o => (Low.keep0 hk).cell (b := b) (o := o) hb
    exact ⟨(hl _).trans x0, (hl _).trans x1, (hl _).trans x2, (hl _).trans x3, (hl _).trans x4, (hl _).trans x5⟩)
  obtain ⟨w1, hw1, hb1, hs1, hk1⟩ := box1 w Z3 30
  have HK1 := hid hk1; have HR1 := hid hb1
  clear hb1 hs1 hk1 hR hx hy hP x0 x1 x2 x3 x4 x5 hb
  go_enter Tryz.func101, Tryz.ntmps101
  go_upto_region 1 with fail
  rw [← hw1]
  clear hw1
  obtain ⟨sr, hsr⟩ : ∃ sr, w.heap.size = sr := ⟨_, rfl⟩
  have HSR : Hid (w.heap.size ≤ sr) := hid (by omega)
  rw [hsr] at HR1 ⊢
  clear hsr
  obtain ⟨x0, x1, x2, x3, x4, x5⟩ := HC.out w1 HK1.out
  go_wp2_with fail
  refine (r_good x HFX.out w1).mono ?_
  rintro r w2 ⟨rfl, hk⟩
  have HK2 := hid (HK1.out.trans hk); have HR2 := hid (hk.get HR1.out id)
  clear hk x0 x1 x2 x3 x4 x5
  obtain ⟨x0, x1, x2, x3, x4, x5⟩ := HC.out w2 HK2.out
  cases hf : x.form
  · have G := hid (HRE.out.trans ((congrArg opZ (show opW 12 x y z = (zW, 1) by simp [opW, hf])).trans (opZ_err 1)))
    clear hf
    have f0 := free_of HR2.out 0
    have f1 := free_of HR2.out 1
    have f2 := free_of HR2.out 2
    have c0 := cell_of HR2.out (i := 0) (by rfl)
    have c1 := cell_of HR2.out (i := 1) (by rfl)
    have c2 := cell_of HR2.out (i := 2) (by rfl)
    have HKF := hid (((HK2.out.setCell_new (p := ⟨sr, 0, none⟩) (by show _ ≤ sr; have := HSR.out; omega) (.bool false)).setCell_new (p := ⟨sr, 1, none⟩) (by show _ ≤ sr; have := HSR.out; omega) (.int .u64 0)).setCell_new (p := ⟨sr, 2, none⟩) (by show _ ≤ sr; have := HSR.out; omega) (.int .u64 0))
    go_wp2
    (try simp only [Exit.inBlock, Exit.then])
    refine bodyPost_ret (results_ct rfl _ rfl (run_loadVar_row _ sr _ 30 _ _ _ (cells3 (.bool false) (.int .u64 0) (.int .u64 0) HR2.out) Tryz.underlying30 rfl (by kernel_rfl))) rfl ?_
    exact ⟨by rw [G.out]; rfl, HKF.out⟩
  have HPX := hid hf
  go_wp2_with fail
  refine (r_good y HFY.out w2).mono ?_
  rintro r w3 ⟨rfl, hk⟩
  have HK3 := hid (HK2.out.trans hk); have HR3 := hid (hk.get HR2.out id)
  clear hk x0 x1 x2 x3 x4 x5
  obtain ⟨x0, x1, x2, x3, x4, x5⟩ := HC.out w3 HK3.out
  cases hg : y.form
  · have G := hid (HRE.out.trans ((congrArg opZ (show opW 12 x y z = (zW, 1) by simp [opW, hg])).trans (opZ_err 1)))
    clear hf hg
    have f0 := free_of HR3.out 0
    have f1 := free_of HR3.out 1
    have f2 := free_of HR3.out 2
    have c0 := cell_of HR3.out (i := 0) (by rfl)
    have c1 := cell_of HR3.out (i := 1) (by rfl)
    have c2 := cell_of HR3.out (i := 2) (by rfl)
    have HKF := hid (((HK3.out.setCell_new (p := ⟨sr, 0, none⟩) (by show _ ≤ sr; have := HSR.out; omega) (.bool false)).setCell_new (p := ⟨sr, 1, none⟩) (by show _ ≤ sr; have := HSR.out; omega) (.int .u64 0)).setCell_new (p := ⟨sr, 2, none⟩) (by show _ ≤ sr; have := HSR.out; omega) (.int .u64 0))
    go_wp2
    (try simp only [Exit.inBlock, Exit.then])
    refine bodyPost_ret (results_ct rfl _ rfl (run_loadVar_row _ sr _ 30 _ _ _ (cells3 (.bool false) (.int .u64 0) (.int .u64 0) HR3.out) Tryz.underlying30 rfl (by kernel_rfl))) rfl ?_
    exact ⟨by rw [G.out]; rfl, HKF.out⟩
  have HPY := hid hg
  have HSW := hid (cmp_swap hf hg)
  have HRF : Hid (R = (if 0 ≤ cmpW x y then x else y, 0)) := hid (HRE.out.trans (by rw [show opW 12 x y z = (if 0 ≤ cmpW x y then x else y, 0) by simp [opW, hf, hg]]; exact opZ_ok _))
  have HD := hid (fun wy => r_cmp y x HFY.out HFX.out hg hf wy)
  obtain ⟨cc, hcc⟩ : ∃ cc, cmpW y x = cc := ⟨_, rfl⟩
  rw [hcc] at HD HSW
  clear hcc hf hg
  go_upto_region 19 with fail
  have HKd := hid HK3.out.drew
  have HRd : Hid (w3.drew.heap[sr]? = _) := HR3
  clear x0 x1 x2 x3 x4 x5
  refine Plan.wp_region_pl [(false, 0, []), (false, 1, []), (false, 2, []), (false, 3, []), (false, 4, []), (false, 5, []), (true, 6, []), (false, 7, [])] (by as_aux_lemma => kernel_rfl) (by as_aux_lemma => kernel_rfl) ?_
  generalize w3.drew = wd at *
  obtain ⟨x0, x1, x2, x3, x4, x5⟩ := HC.out wd HKd.out
  iterate 6 (refine Plan.pl_st rfl ?_; go_big_quiet_step (fail); refine wpQuiet_nil ?_)
  refine Plan.pl_ac rfl ?_
  go_wp2_with fail
  refine (HD.out wd).mono ?_
  rintro r w4 ⟨rfl, hk⟩
  have HK4 := hid (HKd.out.trans hk); have HR4 := hid (hk.get HRd.out id)
  clear hk x0 x1 x2 x3 x4 x5
  obtain ⟨x0, x1, x2, x3, x4, x5⟩ := HC.out w4 HK4.out
  go_wp2
  refine Plan.plQ_mk Plan.chk_end ?_
  iterate 1 (refine Plan.pl_st rfl ?_; go_big_quiet_step (fail); refine wpQuiet_nil ?_)
  refine Plan.pl_end ?_
  by_cases hc : 0 < cc
  · have q1 : decide (0 < cc) = true := decide_eq_true hc
    have G := hid (HRF.out.trans (by rw [if_neg (by have := HSW.out.2.1 hc; omega)]))
    have f0 := free_of HR4.out 0
    have f1 := free_of HR4.out 1
    have f2 := free_of HR4.out 2
    have c0 := cell_of HR4.out (i := 0) (by rfl)
    have c1 := cell_of HR4.out (i := 1) (by rfl)
    have c2 := cell_of HR4.out (i := 2) (by rfl)
    have HKF := hid (((HK4.out.setCell_new (p := ⟨sr, 0, none⟩) (by show _ ≤ sr; have := HSR.out; omega) (.bool y.neg)).setCell_new (p := ⟨sr, 1, none⟩) (by show _ ≤ sr; have := HSR.out; omega) (.int .u64 (y.hi : Int))).setCell_new (p := ⟨sr, 2, none⟩) (by show _ ≤ sr; have := HSR.out; omega) (.int .u64 (y.lo : Int)))
    go_wp2
    all_goals first
      | (exfalso; omega)
      | ((try simp only [Exit.inBlock, Exit.then])
         refine bodyPost_ret (results_ct rfl _ rfl (run_loadVar_row _ sr _ 30 _ _ _ (cells3 (.bool y.neg) (.int .u64 (y.hi : Int)) (.int .u64 (y.lo : Int)) HR4.out) Tryz.underlying30 rfl (by kernel_rfl))) rfl ?_
         exact ⟨by rw [G.out]; rfl, HKF.out⟩)
  have q1 : decide (0 < cc) = false := decide_eq_false hc
  have G := hid (HRF.out.trans (by rw [if_pos (by have := mt HSW.out.2.2 hc; omega)]))
  have f0 := free_of HR4.out 0
  have f1 := free_of HR4.out 1
  have f2 := free_of HR4.out 2
  have c0 := cell_of HR4.out (i := 0) (by rfl)
  have c1 := cell_of HR4.out (i := 1) (by rfl)
  have c2 := cell_of HR4.out (i := 2) (by rfl)
  have HKF := hid (((HK4.out.setCell_new (p := ⟨sr, 0, none⟩) (by show _ ≤ sr; have := HSR.out; omega) (.bool x.neg)).setCell_new (p := ⟨sr, 1, none⟩) (by show _ ≤ sr; have := HSR.out; omega) (.int .u64 (x.hi : Int))).setCell_new (p := ⟨sr, 2, none⟩) (by show _ ≤ sr; have := HSR.out; omega) (.int .u64 (x.lo : Int)))
  go_wp2
  all_goals first
    | (exfalso; omega)
    | ((try simp only [Exit.inBlock, Exit.then])
       refine bodyPost_ret (results_ct rfl _ rfl (run_loadVar_row _ sr _ 30 _ _ _ (cells3 (.bool x.neg) (.int .u64 (x.hi : Int)) (.int .u64 (x.lo : Int)) HR4.out) Tryz.underlying30 rfl (by kernel_rfl))) rfl ?_
       exact ⟨by rw [G.out]; rfl, HKF.out⟩)

set_option maxRecDepth 20000 in
set_option maxHeartbeats 8000000 in
theorem r_node13 (x y z : WI) (hx : x.fit) (hy : y.fit) (p : Option Addr) (c : Nat) (w : World) (hP : XP w w.heap.size p [x, y]) :
    Calls Tryz.prog 101 #[.int .i64 13, .slice p 2 c] w fun r w' => r = .returned (.tuple #[WV (opZ (opW 13 x y z)).1, iV (opZ (opW 13 x y z)).2]) ∧ Keep (fun _ => False) w w' := by
  have HFX := hid hx; have HFY := hid hy
  obtain ⟨R, hR⟩ : ∃ R, opZ (opW 13 x y z) = R := ⟨_, rfl⟩
  have HRE := hid hR.symm
  rw [hR]
  obtain ⟨b, off, rfl, hb, x0, x1, x2, x3, x4, x5⟩ := xp2 hP
  have HC : Hid (∀ wy, Keep (fun _ => False) w wy → wy.cell? ⟨b, off, none⟩ = some (.bool x.neg) ∧ wy.cell? ⟨b, off + 1, none⟩ = some (.int .u64 (x.hi : Int)) ∧ wy.cell? ⟨b, off + 2, none⟩ = some (.int .u64 (x.lo : Int)) ∧ wy.cell? ⟨b, off + 3, none⟩ = some (.bool y.neg) ∧ wy.cell? ⟨b, off + 4, none⟩ = some (.int .u64 (y.hi : Int)) ∧ wy.cell? ⟨b, off + 5, none⟩ = some (.int .u64 (y.lo : Int))) := hid (fun wy hk => by
    have hl := fun o => (Low.keep0 hk).cell (b := b) (o := o) hb
    exact ⟨(hl _).trans x0, (hl _).trans x1, (hl _).trans x2, (hl _).trans x3, (hl _).trans x4, (hl _).trans x5⟩)
  obtain ⟨w1, hw1, hb1, hs1, hk1⟩ := box1 w Z3 30
  have HK1 := hid hk1; have HR1 := hid hb1
  clear hb1 hs1 hk1 hR hx hy hP x0 x1 x2 x3 x4 x5 hb
  go_enter Tryz.func101, Tryz.ntmps101
  go_upto_region 1 with fail
  rw [← hw1]
  clear hw1
  obtain ⟨sr, hsr⟩ : ∃ sr, w.heap.size = sr := ⟨_, rfl⟩
  have HSR : Hid (w.heap.size ≤ sr) := hid (by omega)
  rw [hsr] at HR1 ⊢
  clear hsr
  obtain ⟨x0, x1, x2, x3, x4, x5⟩ := HC.out w1 HK1.out
  go_wp2_with fail
  refine (r_good x HFX.out w1).mono ?_
  rintro r w2 ⟨rfl, hk⟩
  have HK2 := hid (HK1.out.trans hk); have HR2 := hid (hk.get HR1.out id)
  clear hk x0 x1 x2 x3 x4 x5
  obtain ⟨x0, x1, x2, x3, x4, x5⟩ := HC.out w2 HK2.out
  cases hf : x.form
  · have G := hid (HRE.out.trans ((congrArg opZ (show opW 13 x y z = (zW, 1) by simp [opW, hf])).trans (opZ_err 1)))
    clear hf
    have f0 := free_of HR2.out 0
    have f1 := free_of HR2.out 1
    have f2 := free_of HR2.out 2
    have c0 := cell_of HR2.out (i := 0) (by rfl)
    have c1 := cell_of HR2.out (i := 1) (by rfl)
    have c2 := cell_of HR2.out (i := 2) (by rfl)
    have HKF := hid (((HK2.out.setCell_new (p := ⟨sr, 0, none⟩) (by show _ ≤ sr; have := HSR.out; omega) (.bool false)).setCell_new (p := ⟨sr, 1, none⟩) (by show _ ≤ sr; have := HSR.out; omega) (.int .u64 0)).setCell_new (p := ⟨sr, 2, none⟩) (by show _ ≤ sr; have := HSR.out; omega) (.int .u64 0))
    go_wp2
    (try simp only [Exit.inBlock, Exit.then])
    refine bodyPost_ret (results_ct rfl _ rfl (run_loadVar_row _ sr _ 30 _ _ _ (cells3 (.bool false) (.int .u64 0) (.int .u64 0) HR2.out) Tryz.underlying30 rfl (by kernel_rfl))) rfl ?_
    exact ⟨by rw [G.out]; rfl, HKF.out⟩
  have HPX := hid hf
  go_wp2_with fail
  refine (r_good y HFY.out w2).mono ?_
  rintro r w3 ⟨rfl, hk⟩
  have HK3 := hid (HK2.out.trans hk); have HR3 := hid (hk.get HR2.out id)
  clear hk x0 x1 x2 x3 x4 x5
  obtain ⟨x0, x1, x2, x3, x4, x5⟩ := HC.out w3 HK3.out
  cases hg : y.form
  · have G := hid (HRE.out.trans ((congrArg opZ (show opW 13 x y z = (zW, 1) by simp [opW, hg])).trans (opZ_err 1)))
    clear hf hg
    have f0 := free_of HR3.out 0
    have f1 := free_of HR3.out 1
    have f2 := free_of HR3.out 2
    have c0 := cell_of HR3.out (i := 0) (by rfl)
    have c1 := cell_of HR3.out (i := 1) (by rfl)
    have c2 := cell_of HR3.out (i := 2) (by rfl)
    have HKF := hid (((HK3.out.setCell_new (p := ⟨sr, 0, none⟩) (by show _ ≤ sr; have := HSR.out; omega) (.bool false)).setCell_new (p := ⟨sr, 1, none⟩) (by show _ ≤ sr; have := HSR.out; omega) (.int .u64 0)).setCell_new (p := ⟨sr, 2, none⟩) (by show _ ≤ sr; have := HSR.out; omega) (.int .u64 0))
    go_wp2
    (try simp only [Exit.inBlock, Exit.then])
    refine bodyPost_ret (results_ct rfl _ rfl (run_loadVar_row _ sr _ 30 _ _ _ (cells3 (.bool false) (.int .u64 0) (.int .u64 0) HR3.out) Tryz.underlying30 rfl (by kernel_rfl))) rfl ?_
    exact ⟨by rw [G.out]; rfl, HKF.out⟩
  have HPY := hid hg
  have HRF : Hid (R = (truthW (decide (x = y)), 0)) := hid (HRE.out.trans ((congrArg opZ (show opW 13 x y z = (truthW (decide (x = y)), 0) by simp [opW, hf, hg])).trans (opZ_ok _)))
  have HQ := hid (fun wy => eql_wi x y wy)
  generalize decide (x = y) = t at *
  have HD := hid (fun wy => r_truth t wy)
  generalize truthW t = tw at *
  clear hf hg
  go_upto_region 23 with fail
  have HKd := hid HK3.out.drew
  have HRd : Hid (w3.drew.heap[sr]? = _) := HR3
  clear x0 x1 x2 x3 x4 x5
  refine Plan.wp_region_pl [(false, 0, []), (false, 1, []), (false, 2, []), (false, 3, []), (false, 4, []), (false, 5, []), (false, 6, []), (true, 7, []), (false, 8, []), (false, 9, []), (true, 10, []), (false, 11, [])] (by as_aux_lemma => kernel_rfl) (by as_aux_lemma => kernel_rfl) ?_
  generalize w3.drew = wd at *
  obtain ⟨x0, x1, x2, x3, x4, x5⟩ := HC.out wd HKd.out
  iterate 6 (refine Plan.pl_st rfl ?_; go_big_quiet_step (fail); refine wpQuiet_nil ?_)
  refine Plan.pl_st rfl ?_
  refine quiet_eql rfl _ _ _ _ _ _ _ rfl (by rfl) (by rfl) (by kernel_rfl) (HQ.out _) ?_
  simp only [Act.put, List.setIfInBounds_toArray, List.set_cons_succ, List.set_cons_zero]
  refine wpQuiet_nil ?_
  refine Plan.pl_ac rfl ?_
  go_wp2_with fail
  refine (HD.out wd).mono ?_
  rintro r w4 ⟨rfl, hk⟩
  have HK4 := hid (HKd.out.trans hk); have HR4 := hid (hk.get HRd.out id)
  clear hk x0 x1 x2 x3 x4 x5
  go_wp2
  refine Plan.plQ_mk Plan.chk_end ?_
  iterate 2 (refine Plan.pl_st rfl ?_; go_big_quiet_step (fail); refine wpQuiet_nil ?_)
  refine Plan.pl_ac rfl ?_
  have G := hid (HRF.out)
  have f0 := free_of HR4.out 0
  have f1 := free_of HR4.out 1
  have f2 := free_of HR4.out 2
  have c0 := cell_of HR4.out (i := 0) (by rfl)
  have c1 := cell_of HR4.out (i := 1) (by rfl)
  have c2 := cell_of HR4.out (i := 2) (by rfl)
  have HKF := hid (((HK4.out.setCell_new (p := ⟨sr, 0, none⟩) (by show _ ≤ sr; have := HSR.out; omega) (.bool tw.neg)).setCell_new (p := ⟨sr, 1, none⟩) (by show _ ≤ sr; have := HSR.out; omega) (.int .u64 (tw.hi : Int))).setCell_new (p := ⟨sr, 2, none⟩) (by show _ ≤ sr; have := HSR.out; omega) (.int .u64 (tw.lo : Int)))
  go_wp2
  refine Plan.plQ_mk Plan.chk_end ?_
  iterate 1 (refine Plan.pl_st rfl ?_; go_big_quiet_step (fail); refine wpQuiet_nil ?_)
  refine Plan.pl_end ?_
  clear f0 f1 f2 c0 c1 c2
  go_wp2
  (try simp only [Exit.inBlock, Exit.then])
  refine bodyPost_ret (results_ct rfl _ rfl (run_loadVar_row _ sr _ 30 _ _ _ (cells3 (.bool tw.neg) (.int .u64 (tw.hi : Int)) (.int .u64 (tw.lo : Int)) HR4.out) Tryz.underlying30 rfl (by kernel_rfl))) rfl ?_
  exact ⟨by rw [G.out]; rfl, HKF.out⟩

set_option maxRecDepth 20000 in
set_option maxHeartbeats 8000000 in
theorem r_node14 (x y z : WI) (hx : x.fit) (hy : y.fit) (p : Option Addr) (c : Nat) (w : World) (hP : XP w w.heap.size p [x, y]) :
    Calls Tryz.prog 101 #[.int .i64 14, .slice p 2 c] w fun r w' => r = .returned (.tuple #[WV (opZ (opW 14 x y z)).1, iV (opZ (opW 14 x y z)).2]) ∧ Keep (fun _ => False) w w' := by
  have HFX := hid hx; have HFY := hid hy
  obtain ⟨R, hR⟩ : ∃ R, opZ (opW 14 x y z) = R := ⟨_, rfl⟩
  have HRE := hid hR.symm
  rw [hR]
  obtain ⟨b, off, rfl, hb, x0, x1, x2, x3, x4, x5⟩ := xp2 hP
  have HC : Hid (∀ wy, Keep (fun _ => False) w wy → wy.cell? ⟨b, off, none⟩ = some (.bool x.neg) ∧ wy.cell? ⟨b, off + 1, none⟩ = some (.int .u64 (x.hi : Int)) ∧ wy.cell? ⟨b, off + 2, none⟩ = some (.int .u64 (x.lo : Int)) ∧ wy.cell? ⟨b, off + 3, none⟩ = some (.bool y.neg) ∧ wy.cell? ⟨b, off + 4, none⟩ = some (.int .u64 (y.hi : Int)) ∧ wy.cell? ⟨b, off + 5, none⟩ = some (.int .u64 (y.lo : Int))) := hid (fun wy hk => by
    have hl := fun o => (Low.keep0 hk).cell (b := b) (o := o) hb
    exact ⟨(hl _).trans x0, (hl _).trans x1, (hl _).trans x2, (hl _).trans x3, (hl _).trans x4, (hl _).trans x5⟩)
  obtain ⟨w1, hw1, hb1, hs1, hk1⟩ := box1 w Z3 30
  have HK1 := hid hk1; have HR1 := hid hb1
  clear hb1 hs1 hk1 hR hx hy hP x0 x1 x2 x3 x4 x5 hb
  go_enter Tryz.func101, Tryz.ntmps101
  go_upto_region 1 with fail
  rw [← hw1]
  clear hw1
  obtain ⟨sr, hsr⟩ : ∃ sr, w.heap.size = sr := ⟨_, rfl⟩
  have HSR : Hid (w.heap.size ≤ sr) := hid (by omega)
  rw [hsr] at HR1 ⊢
  clear hsr
  obtain ⟨x0, x1, x2, x3, x4, x5⟩ := HC.out w1 HK1.out
  go_wp2_with fail
  refine (r_good x HFX.out w1).mono ?_
  rintro r w2 ⟨rfl, hk⟩
  have HK2 := hid (HK1.out.trans hk); have HR2 := hid (hk.get HR1.out id)
  clear hk x0 x1 x2 x3 x4 x5
  obtain ⟨x0, x1, x2, x3, x4, x5⟩ := HC.out w2 HK2.out
  cases hf : x.form
  · have G := hid (HRE.out.trans ((congrArg opZ (show opW 14 x y z = (zW, 1) by simp [opW, hf])).trans (opZ_err 1)))
    clear hf
    have f0 := free_of HR2.out 0
    have f1 := free_of HR2.out 1
    have f2 := free_of HR2.out 2
    have c0 := cell_of HR2.out (i := 0) (by rfl)
    have c1 := cell_of HR2.out (i := 1) (by rfl)
    have c2 := cell_of HR2.out (i := 2) (by rfl)
    have HKF := hid (((HK2.out.setCell_new (p := ⟨sr, 0, none⟩) (by show _ ≤ sr; have := HSR.out; omega) (.bool false)).setCell_new (p := ⟨sr, 1, none⟩) (by show _ ≤ sr; have := HSR.out; omega) (.int .u64 0)).setCell_new (p := ⟨sr, 2, none⟩) (by show _ ≤ sr; have := HSR.out; omega) (.int .u64 0))
    go_wp2
    (try simp only [Exit.inBlock, Exit.then])
    refine bodyPost_ret (results_ct rfl _ rfl (run_loadVar_row _ sr _ 30 _ _ _ (cells3 (.bool false) (.int .u64 0) (.int .u64 0) HR2.out) Tryz.underlying30 rfl (by kernel_rfl))) rfl ?_
    exact ⟨by rw [G.out]; rfl, HKF.out⟩
  have HPX := hid hf
  go_wp2_with fail
  refine (r_good y HFY.out w2).mono ?_
  rintro r w3 ⟨rfl, hk⟩
  have HK3 := hid (HK2.out.trans hk); have HR3 := hid (hk.get HR2.out id)
  clear hk x0 x1 x2 x3 x4 x5
  obtain ⟨x0, x1, x2, x3, x4, x5⟩ := HC.out w3 HK3.out
  cases hg : y.form
  · have G := hid (HRE.out.trans ((congrArg opZ (show opW 14 x y z = (zW, 1) by simp [opW, hg])).trans (opZ_err 1)))
    clear hf hg
    have f0 := free_of HR3.out 0
    have f1 := free_of HR3.out 1
    have f2 := free_of HR3.out 2
    have c0 := cell_of HR3.out (i := 0) (by rfl)
    have c1 := cell_of HR3.out (i := 1) (by rfl)
    have c2 := cell_of HR3.out (i := 2) (by rfl)
    have HKF := hid (((HK3.out.setCell_new (p := ⟨sr, 0, none⟩) (by show _ ≤ sr; have := HSR.out; omega) (.bool false)).setCell_new (p := ⟨sr, 1, none⟩) (by show _ ≤ sr; have := HSR.out; omega) (.int .u64 0)).setCell_new (p := ⟨sr, 2, none⟩) (by show _ ≤ sr; have := HSR.out; omega) (.int .u64 0))
    go_wp2
    (try simp only [Exit.inBlock, Exit.then])
    refine bodyPost_ret (results_ct rfl _ rfl (run_loadVar_row _ sr _ 30 _ _ _ (cells3 (.bool false) (.int .u64 0) (.int .u64 0) HR3.out) Tryz.underlying30 rfl (by kernel_rfl))) rfl ?_
    exact ⟨by rw [G.out]; rfl, HKF.out⟩
  have HPY := hid hg
  have HRF : Hid (R = (truthW (decide (cmpW x y < 0)), 0)) := hid (HRE.out.trans ((congrArg opZ (show opW 14 x y z = (truthW (decide (cmpW x y < 0)), 0) by simp [opW, hf, hg])).trans (opZ_ok _)))
  have HQ := hid (fun wy => r_cmp x y HFX.out HFY.out hf hg wy)
  generalize cmpW x y = cc at *
  have HD := hid (fun t wy => r_truth t wy)
  clear hf hg
  go_upto_region 25 with fail
  have HKd := hid HK3.out.drew
  have HRd : Hid (w3.drew.heap[sr]? = _) := HR3
  clear x0 x1 x2 x3 x4 x5
  refine Plan.wp_region_pl [(false, 0, []), (false, 1, []), (false, 2, []), (false, 3, []), (false, 4, []), (false, 5, []), (true, 6, []), (false, 7, []), (true, 8, []), (false, 9, []), (false, 10, []), (true, 11, []), (false, 12, [])] (by as_aux_lemma => kernel_rfl) (by as_aux_lemma => kernel_rfl) ?_
  generalize w3.drew = wd at *
  obtain ⟨x0, x1, x2, x3, x4, x5⟩ := HC.out wd HKd.out
  iterate 6 (refine Plan.pl_st rfl ?_; go_big_quiet_step (fail); refine wpQuiet_nil ?_)
  refine Plan.pl_ac rfl ?_
  go_wp2_with fail
  refine (HQ.out wd).mono ?_
  rintro r w4 ⟨rfl, hk⟩
  have HK4 := hid (HKd.out.trans hk); have HR4 := hid (hk.get HRd.out id)
  clear hk x0 x1 x2 x3 x4 x5
  go_wp2
  refine Plan.plQ_mk Plan.chk_end ?_
  iterate 1 (refine Plan.pl_st rfl ?_; go_big_quiet_step (fail); refine wpQuiet_nil ?_)
  refine Plan.pl_ac rfl ?_
  go_wp2_with fail
  refine (HD.out (decide (cc < 0)) w4).mono ?_
  rintro r w5 ⟨rfl, hk⟩
  have HK5 := hid (HK4.out.trans hk); have HR5 := hid (hk.get HR4.out id)
  clear hk
  generalize truthW (decide (cc < 0)) = tw at *
  go_wp2
  refine Plan.plQ_mk Plan.chk_end ?_
  iterate 2 (refine Plan.pl_st rfl ?_; go_big_quiet_step (fail); refine wpQuiet_nil ?_)
  refine Plan.pl_ac rfl ?_
  have G := hid (HRF.out)
  have f0 := free_of HR5.out 0
  have f1 := free_of HR5.out 1
  have f2 := free_of HR5.out 2
  have c0 := cell_of HR5.out (i := 0) (by rfl)
  have c1 := cell_of HR5.out (i := 1) (by rfl)
  have c2 := cell_of HR5.out (i := 2) (by rfl)
  have HKF := hid (((HK5.out.setCell_new (p := ⟨sr, 0, none⟩) (by show _ ≤ sr; have := HSR.out; omega) (.bool tw.neg)).setCell_new (p := ⟨sr, 1, none⟩) (by show _ ≤ sr; have := HSR.out; omega) (.int .u64 (tw.hi : Int))).setCell_new (p := ⟨sr, 2, none⟩) (by show _ ≤ sr; have := HSR.out; omega) (.int .u64 (tw.lo : Int)))
  go_wp2
  refine Plan.plQ_mk Plan.chk_end ?_
  iterate 1 (refine Plan.pl_st rfl ?_; go_big_quiet_step (fail); refine wpQuiet_nil ?_)
  refine Plan.pl_end ?_
  clear f0 f1 f2 c0 c1 c2
  go_wp2
  (try simp only [Exit.inBlock, Exit.then])
  refine bodyPost_ret (results_ct rfl _ rfl (run_loadVar_row _ sr _ 30 _ _ _ (cells3 (.bool tw.neg) (.int .u64 (tw.hi : Int)) (.int .u64 (tw.lo : Int)) HR5.out) Tryz.underlying30 rfl (by kernel_rfl))) rfl ?_
  exact ⟨by rw [G.out]; rfl, HKF.out⟩

set_option maxRecDepth 20000 in
set_option maxHeartbeats 8000000 in
theorem r_node15 (x y z : WI) (hx : x.fit) (hy : y.fit) (p : Option Addr) (c : Nat) (w : World) (hP : XP w w.heap.size p [x]) :
    Calls Tryz.prog 101 #[.int .i64 15, .slice p 1 c] w fun r w' => r = .returned (.tuple #[WV (opZ (opW 15 x y z)).1, iV (opZ (opW 15 x y z)).2]) ∧ Keep (fun _ => False) w w' := by
  have HFX := hid hx; have HFY := hid hy
  obtain ⟨R, hR⟩ : ∃ R, opZ (opW 15 x y z) = R := ⟨_, rfl⟩
  have HRE := hid hR.symm
  rw [hR]
  obtain ⟨b, off, rfl, hb, x0, x1, x2⟩ := xp1 hP
  have HC : Hid (∀ wy, Keep (fun _ => False) w wy → wy.cell? ⟨b, off, none⟩ = some (.bool x.neg) ∧ wy.cell? ⟨b, off + 1, none⟩ = some (.int .u64 (x.hi : Int)) ∧ wy.cell? ⟨b, off + 2, none⟩ = some (.int .u64 (x.lo : Int))) := hid (fun wy hk => by
    have hl := fun o => (Low.keep0 hk).cell (b := b) (o := o) hb
    exact ⟨(hl _).trans x0, (hl _).trans x1, (hl _).trans x2⟩)
  obtain ⟨w1, hw1, hb1, hs1, hk1⟩ := box1 w Z3 30
  have HK1 := hid hk1; have HR1 := hid hb1
  clear hb1 hs1 hk1 hR hx hy hP x0 x1 x2 hb
  go_enter Tryz.func101, Tryz.ntmps101
  go_upto_region 1 with fail
  rw [← hw1]
  clear hw1
  obtain ⟨sr, hsr⟩ : ∃ sr, w.heap.size = sr := ⟨_, rfl⟩
  have HSR : Hid (w.heap.size ≤ sr) := hid (by omega)
  rw [hsr] at HR1 ⊢
  clear hsr
  obtain ⟨x0, x1, x2⟩ := HC.out w1 HK1.out
  go_wp2_with fail
  refine (r_good x HFX.out w1).mono ?_
  rintro r w2 ⟨rfl, hk⟩
  have HK2 := hid (HK1.out.trans hk); have HR2 := hid (hk.get HR1.out id)
  clear hk x0 x1 x2
  obtain ⟨x0, x1, x2⟩ := HC.out w2 HK2.out
  cases hf : x.form
  · have G := hid (HRE.out.trans ((congrArg opZ (show opW 15 x y z = (zW, 1) by simp [opW, hf])).trans (opZ_err 1)))
    clear hf
    have f0 := free_of HR2.out 0
    have f1 := free_of HR2.out 1
    have f2 := free_of HR2.out 2
    have c0 := cell_of HR2.out (i := 0) (by rfl)
    have c1 := cell_of HR2.out (i := 1) (by rfl)
    have c2 := cell_of HR2.out (i := 2) (by rfl)
    have HKF := hid (((HK2.out.setCell_new (p := ⟨sr, 0, none⟩) (by show _ ≤ sr; have := HSR.out; omega) (.bool false)).setCell_new (p := ⟨sr, 1, none⟩) (by show _ ≤ sr; have := HSR.out; omega) (.int .u64 0)).setCell_new (p := ⟨sr, 2, none⟩) (by show _ ≤ sr; have := HSR.out; omega) (.int .u64 0))
    go_wp2
    (try simp only [Exit.inBlock, Exit.then])
    refine bodyPost_ret (results_ct rfl _ rfl (run_loadVar_row _ sr _ 30 _ _ _ (cells3 (.bool false) (.int .u64 0) (.int .u64 0) HR2.out) Tryz.underlying30 rfl (by kernel_rfl))) rfl ?_
    exact ⟨by rw [G.out]; rfl, HKF.out⟩
  have HPX := hid hf
  have HS := hid (form_zeroN hf)
  have HRF : Hid (R = (truthW (decide (x = zW)), 0)) := hid (HRE.out.trans (by
    rw [show opW 15 x y z = (truthW (decide (sgnW x = 0)), 0) by simp [opW, hf], opZ_ok, decide_eq_decide.2 HS.out]))
  have hq1 : (binOp .eql 30 (WV x) (.agg #[.bool false, .int .u64 0, .int .u64 0])).run Tryz.prog w2 = .ok (.bool (decide (x = zW))) w2 := eql_wi x zW w2
  generalize decide (x = zW) = t at *
  have HD := hid (fun wy => r_truth t wy)
  generalize truthW t = tw at *
  clear hf
  go_wp2_with (refine wpList_eql_v rfl _ _ _ _ _ _ _ rfl (by rfl) (by rfl) (by kernel_rfl) hq1 ?_)
  refine (HD.out w2).mono ?_
  rintro r w4 ⟨rfl, hk⟩
  have HK4 := hid (HK2.out.trans hk); have HR4 := hid (hk.get HR2.out id)
  clear hk hq1
  clear x0 x1 x2
  have G := hid (HRF.out)
  have f0 := free_of HR4.out 0
  have f1 := free_of HR4.out 1
  have f2 := free_of HR4.out 2
  have c0 := cell_of HR4.out (i := 0) (by rfl)
  have c1 := cell_of HR4.out (i := 1) (by rfl)
  have c2 := cell_of HR4.out (i := 2) (by rfl)
  have HKF := hid (((HK4.out.setCell_new (p := ⟨sr, 0, none⟩) (by show _ ≤ sr; have := HSR.out; omega) (.bool tw.neg)).setCell_new (p := ⟨sr, 1, none⟩) (by show _ ≤ sr; have := HSR.out; omega) (.int .u64 (tw.hi : Int))).setCell_new (p := ⟨sr, 2, none⟩) (by show _ ≤ sr; have := HSR.out; omega) (.int .u64 (tw.lo : Int)))
  go_wp2
  (try simp only [Exit.inBlock, Exit.then])
  refine bodyPost_ret (results_ct rfl _ rfl (run_loadVar_row _ sr _ 30 _ _ _ (cells3 (.bool tw.neg) (.int .u64 (tw.hi : Int)) (.int .u64 (tw.lo : Int)) HR4.out) Tryz.underlying30 rfl (by kernel_rfl))) rfl ?_
  exact ⟨by rw [G.out]; rfl, HKF.out⟩

set_option maxRecDepth 20000 in
set_option maxHeartbeats 8000000 in
theorem r_node16 (x y z : WI) (hx : x.fit) (hy : y.fit) (p : Option Addr) (c : Nat) (w : World) (hP : XP w w.heap.size p [x, y, z]) :
    Calls Tryz.prog 101 #[.int .i64 16, .slice p 3 c] w fun r w' => r = .returned (.tuple #[WV (opZ (opW 16 x y z)).1, iV (opZ (opW 16 x y z)).2]) ∧ Keep (fun _ => False) w w' := by
  have HFX := hid hx; have HFY := hid hy
  obtain ⟨R, hR⟩ : ∃ R, opZ (opW 16 x y z) = R := ⟨_, rfl⟩
  have HRE := hid hR.symm
  rw [hR]
  obtain ⟨b, off, rfl, hb, x0, x1, x2, x3, x4, x5, x6, x7, x8⟩ := xp3 hP
  have HC : Hid (∀ wy, Keep (fun _ => False) w wy → wy.cell? ⟨b, off, none⟩ = some (.bool x.neg) ∧ wy.cell? ⟨b, off + 1, none⟩ = some (.int .u64 (x.hi : Int)) ∧ wy.cell? ⟨b, off + 2, none⟩ = some (.int .u64 (x.lo : Int)) ∧ wy.cell? ⟨b, off + 3, none⟩ = some (.bool y.neg) ∧ wy.cell? ⟨b, off + 4, none⟩ = some (.int .u64 (y.hi : Int)) ∧ wy.cell? ⟨b, off + 5, none⟩ = some (.int .u64 (y.lo : Int)) ∧ wy.cell? ⟨b, off + 6, none⟩ = some (.bool z.neg) ∧ wy.cell? ⟨b, off + 7, none⟩ = some (.int .u64 (z.hi : Int)) ∧ wy.cell? ⟨b, off + 8, none⟩ = some (.int .u64 (z.lo : Int))) := hid (fun wy hk => by
    have hl := fun o => (Low.keep0 hk).cell (b := b) (o := o) hb
    exact ⟨(hl _).trans x0, (hl _).trans x1, (hl _).trans x2, (hl _).trans x3, (hl _).trans x4, (hl _).trans x5, (hl _).trans x6, (hl _).trans x7, (hl _).trans x8⟩)
  obtain ⟨w1, hw1, hb1, hs1, hk1⟩ := box1 w Z3 30
  have HK1 := hid hk1; have HR1 := hid hb1
  clear hb1 hs1 hk1 hR hx hy hP x0 x1 x2 x3 x4 x5 x6 x7 x8 hb
  go_enter Tryz.func101, Tryz.ntmps101
  go_upto_region 1 with fail
  rw [← hw1]
  clear hw1
  obtain ⟨sr, hsr⟩ : ∃ sr, w.heap.size = sr := ⟨_, rfl⟩
  have HSR : Hid (w.heap.size ≤ sr) := hid (by omega)
  rw [hsr] at HR1 ⊢
  clear hsr
  obtain ⟨x0, x1, x2, x3, x4, x5, x6, x7, x8⟩ := HC.out w1 HK1.out
  go_wp2_with fail
  refine (r_good x HFX.out w1).mono ?_
  rintro r w2 ⟨rfl, hk⟩
  have HK2 := hid (HK1.out.trans hk); have HR2 := hid (hk.get HR1.out id)
  clear hk x0 x1 x2 x3 x4 x5 x6 x7 x8
  obtain ⟨x0, x1, x2, x3, x4, x5, x6, x7, x8⟩ := HC.out w2 HK2.out
  cases hf : x.form
  · have G := hid (HRE.out.trans ((congrArg opZ (show opW 16 x y z = (zW, 1) by simp [opW, hf])).trans (opZ_err 1)))
    clear hf
    have f0 := free_of HR2.out 0
    have f1 := free_of HR2.out 1
    have f2 := free_of HR2.out 2
    have c0 := cell_of HR2.out (i := 0) (by rfl)
    have c1 := cell_of HR2.out (i := 1) (by rfl)
    have c2 := cell_of HR2.out (i := 2) (by rfl)
    have HKF := hid (((HK2.out.setCell_new (p := ⟨sr, 0, none⟩) (by show _ ≤ sr; have := HSR.out; omega) (.bool false)).setCell_new (p := ⟨sr, 1, none⟩) (by show _ ≤ sr; have := HSR.out; omega) (.int .u64 0)).setCell_new (p := ⟨sr, 2, none⟩) (by show _ ≤ sr; have := HSR.out; omega) (.int .u64 0))
    go_wp2
    (try simp only [Exit.inBlock, Exit.then])
    refine bodyPost_ret (results_ct rfl _ rfl (run_loadVar_row _ sr _ 30 _ _ _ (cells3 (.bool false) (.int .u64 0) (.int .u64 0) HR2.out) Tryz.underlying30 rfl (by kernel_rfl))) rfl ?_
    exact ⟨by rw [G.out]; rfl, HKF.out⟩
  have HPX := hid hf
  have HS := hid (form_zeroN hf)
  by_cases hz : x = zW
  · have hq1 : (binOp .neq 30 (WV x) (.agg #[.bool false, .int .u64 0, .int .u64 0])).run Tryz.prog w2 = .ok (.bool (!decide (x = zW))) w2 := neq_wiD x zW w2
    rw [decide_eq_true hz] at hq1
    have G := hid (HRE.out.trans ((congrArg opZ (show opW 16 x y z = (z, 0) by simp [opW, hf, HS.out.1 hz])).trans (opZ_ok z)))
    clear hf hz
    have f0 := free_of HR2.out 0
    have f1 := free_of HR2.out 1
    have f2 := free_of HR2.out 2
    have c0 := cell_of HR2.out (i := 0) (by rfl)
    have c1 := cell_of HR2.out (i := 1) (by rfl)
    have c2 := cell_of HR2.out (i := 2) (by rfl)
    have HKF := hid (((HK2.out.setCell_new (p := ⟨sr, 0, none⟩) (by show _ ≤ sr; have := HSR.out; omega) (.bool z.neg)).setCell_new (p := ⟨sr, 1, none⟩) (by show _ ≤ sr; have := HSR.out; omega) (.int .u64 (z.hi : Int))).setCell_new (p := ⟨sr, 2, none⟩) (by show _ ≤ sr; have := HSR.out; omega) (.int .u64 (z.lo : Int)))
    go_wp2_with (refine wpList_neq_v rfl _ _ _ _ _ _ _ rfl (by rfl) (by rfl) (by kernel_rfl) hq1 ?_)
    (try simp only [Exit.inBlock, Exit.then])
    refine bodyPost_ret (results_ct rfl _ rfl (run_loadVar_row _ sr _ 30 _ _ _ (cells3 (.bool z.neg) (.int .u64 (z.hi : Int)) (.int .u64 (z.lo : Int)) HR2.out) Tryz.underlying30 rfl (by kernel_rfl))) rfl ?_
    exact ⟨by rw [G.out]; rfl, HKF.out⟩
  have hq1 : (binOp .neq 30 (WV x) (.agg #[.bool false, .int .u64 0, .int .u64 0])).run Tryz.prog w2 = .ok (.bool (!decide (x = zW))) w2 := neq_wiD x zW w2
  rw [decide_eq_false hz] at hq1
  have G := hid (HRE.out.trans ((congrArg opZ (show opW 16 x y z = (y, 0) by simp [opW, hf]; intro h; exact absurd (HS.out.2 h) hz)).trans (opZ_ok y)))
  clear hf hz
  have f0 := free_of HR2.out 0
  have f1 := free_of HR2.out 1
  have f2 := free_of HR2.out 2
  have c0 := cell_of HR2.out (i := 0) (by rfl)
  have c1 := cell_of HR2.out (i := 1) (by rfl)
  have c2 := cell_of HR2.out (i := 2) (by rfl)
  have HKF := hid (((HK2.out.setCell_new (p := ⟨sr, 0, none⟩) (by show _ ≤ sr; have := HSR.out; omega) (.bool y.neg)).setCell_new (p := ⟨sr, 1, none⟩) (by show _ ≤ sr; have := HSR.out; omega) (.int .u64 (y.hi : Int))).setCell_new (p := ⟨sr, 2, none⟩) (by show _ ≤ sr; have := HSR.out; omega) (.int .u64 (y.lo : Int)))
  go_wp2_with (refine wpList_neq_v rfl _ _ _ _ _ _ _ rfl (by rfl) (by rfl) (by kernel_rfl) hq1 ?_)
  (try simp only [Exit.inBlock, Exit.then])
  refine bodyPost_ret (results_ct rfl _ rfl (run_loadVar_row _ sr _ 30 _ _ _ (cells3 (.bool y.neg) (.int .u64 (y.hi : Int)) (.int .u64 (y.lo : Int)) HR2.out) Tryz.underlying30 rfl (by kernel_rfl))) rfl ?_
  exact ⟨by rw [G.out]; rfl, HKF.out⟩

set_option maxRecDepth 20000 in
set_option maxHeartbeats 8000000 in
theorem r_node17 (x y z : WI) (hx : x.fit) (hy : y.fit) (p : Option Addr) (c : Nat) (w : World) (hP : XP w w.heap.size p [x, y]) :
    Calls Tryz.prog 101 #[.int .i64 17, .slice p 2 c] w fun r w' => r = .returned (.tuple #[WV (opZ (opW 17 x y z)).1, iV (opZ (opW 17 x y z)).2]) ∧ Keep (fun _ => False) w w' := by
  have HFX := hid hx; have HFY := hid hy
  obtain ⟨R, hR⟩ : ∃ R, opZ (opW 17 x y z) = R := ⟨_, rfl⟩
  have HRE := hid hR.symm
  rw [hR]
  obtain ⟨b, off, rfl, hb, x0, x1, x2, x3, x4, x5⟩ := xp2 hP
  have HC : Hid (∀ wy, Keep (fun _ => False) w wy → wy.cell? ⟨b, off, none⟩ = some (.bool x.neg) ∧ wy.cell? ⟨b, off + 1, none⟩ = some (.int .u64 (x.hi : Int)) ∧ wy.cell? ⟨b, off + 2, none⟩ = some (.int .u64 (x.lo : Int)) ∧ wy.cell? ⟨b, off + 3, none⟩ = some (.bool y.neg) ∧ wy.cell? ⟨b, off + 4, none⟩ = some (.int .u64 (y.hi : Int)) ∧ wy.cell? ⟨b, off + 5, none⟩ = some (.int .u64 (y.lo : Int))) := hid (fun wy hk => by
    have hl := fun o => (Low.keep0 hk).cell (b := b) (o := o) hb
    exact ⟨(hl _).trans x0, (hl _).trans x1, (hl _).trans x2, (hl _).trans x3, (hl _).trans x4, (hl _).trans x5⟩)
  obtain ⟨w1, hw1, hb1, hs1, hk1⟩ := box1 w Z3 30
  have HK1 := hid hk1; have HR1 := hid hb1
  clear hb1 hs1 hk1 hR hx hy hP x0 x1 x2 x3 x4 x5 hb
  go_enter Tryz.func101, Tryz.ntmps101
  go_upto_region 1 with fail
  rw [← hw1]
  clear hw1
  obtain ⟨sr, hsr⟩ : ∃ sr, w.heap.size = sr := ⟨_, rfl⟩
  have HSR : Hid (w.heap.size ≤ sr) := hid (by omega)
  rw [hsr] at HR1 ⊢
  clear hsr
  obtain ⟨x0, x1, x2, x3, x4, x5⟩ := HC.out w1 HK1.out
  go_wp2_with fail
  refine (r_good y HFY.out w1).mono ?_
  rintro r w2 ⟨rfl, hk⟩
  have HK2 := hid (HK1.out.trans hk); have HR2 := hid (hk.get HR1.out id)
  clear hk x0 x1 x2 x3 x4 x5
  obtain ⟨x0, x1, x2, x3, x4, x5⟩ := HC.out w2 HK2.out
  cases hf : y.form
  · have G := hid (HRE.out.trans ((congrArg opZ (show opW 17 x y z = (zW, 1) by simp [opW, hf])).trans (opZ_err 1)))
    clear hf
    have f0 := free_of HR2.out 0
    have f1 := free_of HR2.out 1
    have f2 := free_of HR2.out 2
    have c0 := cell_of HR2.out (i := 0) (by rfl)
    have c1 := cell_of HR2.out (i := 1) (by rfl)
    have c2 := cell_of HR2.out (i := 2) (by rfl)
    have HKF := hid (((HK2.out.setCell_new (p := ⟨sr, 0, none⟩) (by show _ ≤ sr; have := HSR.out; omega) (.bool false)).setCell_new (p := ⟨sr, 1, none⟩) (by show _ ≤ sr; have := HSR.out; omega) (.int .u64 0)).setCell_new (p := ⟨sr, 2, none⟩) (by show _ ≤ sr; have := HSR.out; omega) (.int .u64 0))
    go_wp2
    (try simp only [Exit.inBlock, Exit.then])
    refine bodyPost_ret (results_ct rfl _ rfl (run_loadVar_row _ sr _ 30 _ _ _ (cells3 (.bool false) (.int .u64 0) (.int .u64 0) HR2.out) Tryz.underlying30 rfl (by kernel_rfl))) rfl ?_
    exact ⟨by rw [G.out]; rfl, HKF.out⟩
  have HPF := hid hf
  have HS := hid (form_zeroN hf)
  by_cases hz : y = zW
  · have hq1 : (binOp .eql 30 (WV y) (.agg #[.bool false, .int .u64 0, .int .u64 0])).run Tryz.prog w2 = .ok (.bool (decide (y = zW))) w2 := eql_wi y zW w2
    rw [decide_eq_true hz] at hq1
    have G := hid (HRE.out.trans ((congrArg opZ (show opW 17 x y z = (zW, 9) by simp [opW, hf, HS.out.1 hz])).trans (opZ_err 9)))
    clear hf hz
    have f0 := free_of HR2.out 0
    have f1 := free_of HR2.out 1
    have f2 := free_of HR2.out 2
    have c0 := cell_of HR2.out (i := 0) (by rfl)
    have c1 := cell_of HR2.out (i := 1) (by rfl)
    have c2 := cell_of HR2.out (i := 2) (by rfl)
    have HKF := hid (((HK2.out.setCell_new (p := ⟨sr, 0, none⟩) (by show _ ≤ sr; have := HSR.out; omega) (.bool false)).setCell_new (p := ⟨sr, 1, none⟩) (by show _ ≤ sr; have := HSR.out; omega) (.int .u64 0)).setCell_new (p := ⟨sr, 2, none⟩) (by show _ ≤ sr; have := HSR.out; omega) (.int .u64 0))
    go_wp2_with (refine wpList_eql_v rfl _ _ _ _ _ _ _ rfl (by rfl) (by rfl) (by kernel_rfl) hq1 ?_)
    (try simp only [Exit.inBlock, Exit.then])
    refine bodyPost_ret (results_ct rfl _ rfl (run_loadVar_row _ sr _ 30 _ _ _ (cells3 (.bool false) (.int .u64 0) (.int .u64 0) HR2.out) Tryz.underlying30 rfl (by kernel_rfl))) rfl ?_
    exact ⟨by rw [G.out]; rfl, HKF.out⟩
  have hq1 : (binOp .eql 30 (WV y) (.agg #[.bool false, .int .u64 0, .int .u64 0])).run Tryz.prog w2 = .ok (.bool (decide (y = zW))) w2 := eql_wi y zW w2
  rw [decide_eq_false hz] at hq1
  have G := hid (HRE.out.trans ((congrArg opZ (show opW 17 x y z = (x, 0) by simp [opW, hf]; intro h; exact absurd (HS.out.2 h) hz)).trans (opZ_ok x)))
  clear hf hz
  have f0 := free_of HR2.out 0
  have f1 := free_of HR2.out 1
  have f2 := free_of HR2.out 2
  have c0 := cell_of HR2.out (i := 0) (by rfl)
  have c1 := cell_of HR2.out (i := 1) (by rfl)
  have c2 := cell_of HR2.out (i := 2) (by rfl)
  have HKF := hid (((HK2.out.setCell_new (p := ⟨sr, 0, none⟩) (by show _ ≤ sr; have := HSR.out; omega) (.bool x.neg)).setCell_new (p := ⟨sr, 1, none⟩) (by show _ ≤ sr; have := HSR.out; omega) (.int .u64 (x.hi : Int))).setCell_new (p := ⟨sr, 2, none⟩) (by show _ ≤ sr; have := HSR.out; omega) (.int .u64 (x.lo : Int)))
  go_wp2_with (refine wpList_eql_v rfl _ _ _ _ _ _ _ rfl (by rfl) (by rfl) (by kernel_rfl) hq1 ?_)
  (try simp only [Exit.inBlock, Exit.then])
  refine bodyPost_ret (results_ct rfl _ rfl (run_loadVar_row _ sr _ 30 _ _ _ (cells3 (.bool x.neg) (.int .u64 (x.hi : Int)) (.int .u64 (x.lo : Int)) HR2.out) Tryz.underlying30 rfl (by kernel_rfl))) rfl ?_
  exact ⟨by rw [G.out]; rfl, HKF.out⟩
end Go.Proofs.YtddleckbbinllaaGreatDoor
