/- What is proved: the reference's Do, operation by operation. -/
import Derived.Test.YtddleckbbinllaaGreatDoorMRf1To
import Derived.Test.YtddleckbbinllaaGreatDoorMWideQuo
import Derived.Test.YtddleckbbinllaaGreatDoorMWideAdd
namespace Go.Proofs.YtddleckbbinllaaGreatDoor
open Go.RowKit Go.Proofs.Heap Go.Proofs.Sch Go.Proofs.Wide

theorem fit_to {ng : Bool} {m : Nat} {z : WI} {is : Bool} (h : toW ng m = (z, is)) : fitW ng m = if is = true then (z, 0) else (zW, 3) := by
  unfold toW at h
  unfold fitW
  by_cases hm : m < 170141183460469231731687303715884105728
  · rw [if_pos hm] at h ⊢
    injection h with h1 h2
    subst h1; subst h2; rfl
  · rw [if_neg hm] at h ⊢
    injection h with h1 h2
    subst h1; subst h2; rfl
theorem add_fit {x y : WI} (hx : x.form = true) (hy : y.form = true) : addW x y = fitW (addB x.neg y.neg x.mag y.mag) (addM x.neg y.neg x.mag y.mag) := by
  unfold addW addB addM
  rw [if_pos ⟨hx, hy⟩]
  by_cases h : x.neg = y.neg
  · rw [if_pos h, if_pos h, if_pos h]
  · rw [if_neg h, if_neg h, if_neg h]
    by_cases h2 : x.mag < y.mag
    · rw [if_pos h2, if_neg (by omega), if_neg (by omega)]
    · rw [if_neg h2, if_pos (by omega), if_pos (by omega)]
theorem sub_fit {x y : WI} (hx : x.form = true) (hy : y.form = true) (hfy : y.fit) : subW x y = fitW (addB x.neg (!y.neg) x.mag y.mag) (addM x.neg (!y.neg) x.mag y.mag) := by
  have e1 : negW y = ofM (!y.neg) y.mag := if_pos hy
  have e2 : (ofM (!y.neg) y.mag).form = true := ofM_form _ (mag_form hfy hy)
  unfold subW
  rw [if_pos ⟨hx, hy⟩, e1, add_fit hx e2, ofM_mag]
  by_cases h0 : y.mag = 0
  · have e3 : (ofM (!y.neg) y.mag).neg = false := by
      show (!y.neg && decide (y.mag ≠ 0)) = false
      rw [decide_eq_false (by simp [h0])]
      simp
    rw [e3, h0]
    unfold addB addM
    cases x.neg <;> cases y.neg <;> simp
  · have e3 : (ofM (!y.neg) y.mag).neg = !y.neg := by
      show (!y.neg && decide (y.mag ≠ 0)) = !y.neg
      rw [decide_eq_true (show y.mag ≠ 0 from h0)]
      simp
    rw [e3]
theorem mul_fit {x y : WI} (hx : x.form = true) (hy : y.form = true) : mulW x y = fitW (!(x.neg == y.neg)) (x.mag * y.mag) := by unfold mulW; rw [if_pos ⟨hx, hy⟩]; rfl
theorem bad_no {x y : WI} (hx : x.form = true) (hy : y.form = true) (h0 : y.mag ≠ 0) : ¬ badW x y true = true := by unfold badW; rw [hx, hy, decide_eq_false h0]; simp
theorem quo_fit {x y : WI} (hx : x.form = true) (hy : y.form = true) (hf : x.fit) (h0 : y.mag ≠ 0) : quoW x y = fitW (!(x.neg == y.neg)) (x.mag / y.mag) := by
  unfold quoW fitW
  rw [if_neg (bad_no hx hy h0), if_pos (Nat.lt_of_le_of_lt (Nat.div_le_self _ _) (mag_form hf hx))]
  rfl
theorem rem_fit {x y : WI} (hx : x.form = true) (hy : y.form = true) (hf : x.fit) (h0 : y.mag ≠ 0) : remW x y = fitW x.neg (x.mag % y.mag) := by
  unfold remW fitW
  rw [if_neg (bad_no hx hy h0), if_pos (Nat.lt_of_le_of_lt (Nat.mod_le _ _) (mag_form hf hx))]
theorem bad1 {x y : WI} (h : x.form = false ∨ y.form = false) : addW x y = (zW, 1) ∧ subW x y = (zW, 1) ∧ mulW x y = (zW, 1) ∧ quoW x y = (zW, 1) ∧ remW x y = (zW, 1) := by
  have hn : ¬ (x.form = true ∧ y.form = true) := by
    rintro ⟨h1, h2⟩
    rcases h with h | h
    · rw [h] at h1; cases h1
    · rw [h] at h2; cases h2
  have hb : badW x y true = true := by
    unfold badW
    rcases h with h | h
    · rw [h]; simp
    · rw [h]; simp
  exact ⟨if_neg hn, if_neg hn, if_neg hn, if_pos hb, if_pos hb⟩
theorem bad2 {x y : WI} (h : y.mag = 0) : quoW x y = (zW, 1) ∧ remW x y = (zW, 1) := by
  have hb : badW x y true = true := by unfold badW; rw [decide_eq_true h]; simp
  exact ⟨if_pos hb, if_pos hb⟩
theorem mag0 {y : WI} : y.mag = 0 ↔ y.hi = 0 ∧ y.lo = 0 := by unfold WI.mag; omega
theorem small16 {x : WI} (h : x.fit) : x.mag < 256 ^ 16 := by have := mag_lt h; exact this
theorem small39 {x : WI} (h : x.fit) : x.mag < 256 ^ 39 := Nat.lt_trans (small16 h) (Nat.pow_lt_pow_right (by decide) (by decide))
theorem small40 {x : WI} (h : x.fit) : x.mag < 256 ^ 40 := Nat.lt_trans (small16 h) (Nat.pow_lt_pow_right (by decide) (by decide))
theorem addM_lt {a b : Bool} {m n : Nat} (hm : m < 256 ^ 39) (hn : n < 256 ^ 39) : addM a b m n < 256 ^ 40 := by
  have h3 : 256 ^ 40 = 256 ^ 39 * 256 := Nat.pow_succ ..
  rw [h3]
  generalize 256 ^ 39 = X at *
  unfold addM
  split
  · omega
  split
  · omega
  · omega
theorem mulM_lt {m n : Nat} (hm : m < 256 ^ 16) (hn : n < 256 ^ 16) : m * n < 256 ^ 40 := by
  have h1 : m * n < 256 ^ 16 * 256 ^ 16 := Nat.mul_lt_mul'' hm hn
  rw [← Nat.pow_add] at h1
  exact Nat.lt_trans h1 (Nat.pow_lt_pow_right (by decide) (by decide))

set_option maxRecDepth 20000 in
set_option maxHeartbeats 16000000 in
theorem r_do1 (x y : WI) (hx : x.fit) (hy : y.fit) (w : World) :
    Calls Tryz.prog 129 #[.int .i64 1, WV x, WV y] w fun r w' => r = .returned (.tuple #[WV (addW x y).1, iV (addW x y).2]) ∧ Keep (fun _ => False) w w' := by
  have HFX := hid hx; have HFY := hid hy
  clear hx hy
  obtain ⟨w1, hw1, hb1, hb2, hb3, hs1, hk1⟩ := box3 w (WC x) (WC y) #[.bool false, .int .u64 0, .int .u64 0] 30 30 30
  have HX1 := hid hb1; have HY1 := hid hb2; have HR1 := hid hb3; have HK1 := hid hk1
  clear hb1 hb2 hb3 hs1 hk1
  have hz := zero_num
  have hsz := nC_size false (fun _ => 0)
  go_enter Tryz.func129, Tryz.ntmps129
  go_upto_region 1 with fail
  rw [← hw1]
  clear hw1
  generalize hsb : w.heap.size = sb at *
  have HSB := hid hsb
  clear hsb
  have s0 : w1.cell? ⟨sb, 0, none⟩ = some (.bool x.neg) := cell_of HX1.out (by rfl)
  have s1 : w1.cell? ⟨sb, 1, none⟩ = some (.int .u64 (x.hi : Int)) := cell_of HX1.out (by rfl)
  have s2 : w1.cell? ⟨sb, 2, none⟩ = some (.int .u64 (x.lo : Int)) := cell_of HX1.out (by rfl)
  have t0 : w1.cell? ⟨sb + 1, 0, none⟩ = some (.bool y.neg) := cell_of HY1.out (by rfl)
  have t1 : w1.cell? ⟨sb + 1, 1, none⟩ = some (.int .u64 (y.hi : Int)) := cell_of HY1.out (by rfl)
  have t2 : w1.cell? ⟨sb + 1, 2, none⟩ = some (.int .u64 (y.lo : Int)) := cell_of HY1.out (by rfl)
  go_wp2_with fail
  refine (r_good x HFX.out w1).mono ?_
  rintro r w2 ⟨rfl, hk⟩
  have HX2 := hid (hk.get HX1.out id); have HY2 := hid (hk.get HY1.out id); have HR2 := hid (hk.get HR1.out id); have HK2 := hid (HK1.out.trans hk)
  clear hk
  clear s0 s1 s2 t0 t1 t2
  have s0 : w2.cell? ⟨sb, 0, none⟩ = some (.bool x.neg) := cell_of HX2.out (by rfl)
  have s1 : w2.cell? ⟨sb, 1, none⟩ = some (.int .u64 (x.hi : Int)) := cell_of HX2.out (by rfl)
  have s2 : w2.cell? ⟨sb, 2, none⟩ = some (.int .u64 (x.lo : Int)) := cell_of HX2.out (by rfl)
  have t0 : w2.cell? ⟨sb + 1, 0, none⟩ = some (.bool y.neg) := cell_of HY2.out (by rfl)
  have t1 : w2.cell? ⟨sb + 1, 1, none⟩ = some (.int .u64 (y.hi : Int)) := cell_of HY2.out (by rfl)
  have t2 : w2.cell? ⟨sb + 1, 2, none⟩ = some (.int .u64 (y.lo : Int)) := cell_of HY2.out (by rfl)
  cases hfx : x.form
  · have G := hid ((bad1 (y := y) (.inl hfx)).1)
    clear hfx
    have d0 := cell_of HR2.out (i := 0) (by rfl)
    have d1 := cell_of HR2.out (i := 1) (by rfl)
    have d2 := cell_of HR2.out (i := 2) (by rfl)
    have e0 := free_of HR2.out 0
    have e1 := free_of HR2.out 1
    have e2 := free_of HR2.out 2
    have HKF := hid (((HK2.out.setCell_new (p := ⟨sb + 1 + 1, 0, none⟩) (by have := HSB.out; simp only; omega) (.bool false)).setCell_new (p := ⟨sb + 1 + 1, 1, none⟩) (by have := HSB.out; simp only; omega) (.int .u64 0)).setCell_new (p := ⟨sb + 1 + 1, 2, none⟩) (by have := HSB.out; simp only; omega) (.int .u64 0))
    go_wp2
    (try simp only [Exit.inBlock, Exit.then])
    refine bodyPost_ret (results_ct rfl _ rfl (load_intN (cells3 (.bool false) (.int .u64 0) (.int .u64 0) HR2.out))) rfl ?_
    exact ⟨by rw [G.out]; rfl, HKF.out⟩
  have HPX := hid hfx
  clear hfx
  go_wp2_with fail
  refine (r_good y HFY.out w2).mono ?_
  rintro r w3 ⟨rfl, hk⟩
  have HX3 := hid (hk.get HX2.out id); have HY3 := hid (hk.get HY2.out id); have HR3 := hid (hk.get HR2.out id); have HK3 := hid (HK2.out.trans hk)
  clear hk
  clear s0 s1 s2 t0 t1 t2
  have s0 : w3.cell? ⟨sb, 0, none⟩ = some (.bool x.neg) := cell_of HX3.out (by rfl)
  have s1 : w3.cell? ⟨sb, 1, none⟩ = some (.int .u64 (x.hi : Int)) := cell_of HX3.out (by rfl)
  have s2 : w3.cell? ⟨sb, 2, none⟩ = some (.int .u64 (x.lo : Int)) := cell_of HX3.out (by rfl)
  have t0 : w3.cell? ⟨sb + 1, 0, none⟩ = some (.bool y.neg) := cell_of HY3.out (by rfl)
  have t1 : w3.cell? ⟨sb + 1, 1, none⟩ = some (.int .u64 (y.hi : Int)) := cell_of HY3.out (by rfl)
  have t2 : w3.cell? ⟨sb + 1, 2, none⟩ = some (.int .u64 (y.lo : Int)) := cell_of HY3.out (by rfl)
  cases hfy : y.form
  · have G := hid ((bad1 (x := x) (.inr hfy)).1)
    clear hfy
    have d0 := cell_of HR3.out (i := 0) (by rfl)
    have d1 := cell_of HR3.out (i := 1) (by rfl)
    have d2 := cell_of HR3.out (i := 2) (by rfl)
    have e0 := free_of HR3.out 0
    have e1 := free_of HR3.out 1
    have e2 := free_of HR3.out 2
    have HKF := hid (((HK3.out.setCell_new (p := ⟨sb + 1 + 1, 0, none⟩) (by have := HSB.out; simp only; omega) (.bool false)).setCell_new (p := ⟨sb + 1 + 1, 1, none⟩) (by have := HSB.out; simp only; omega) (.int .u64 0)).setCell_new (p := ⟨sb + 1 + 1, 2, none⟩) (by have := HSB.out; simp only; omega) (.int .u64 0))
    go_wp2
    (try simp only [Exit.inBlock, Exit.then])
    refine bodyPost_ret (results_ct rfl _ rfl (load_intN (cells3 (.bool false) (.int .u64 0) (.int .u64 0) HR3.out))) rfl ?_
    exact ⟨by rw [G.out]; rfl, HKF.out⟩
  have HPY := hid hfy
  clear hfy
  go_wp2_with fail
  refine (r_from x HFX.out w3).mono ?_
  rintro r w4 ⟨rfl, hk⟩
  have HX4 := hid (hk.get HX3.out id); have HY4 := hid (hk.get HY3.out id); have HR4 := hid (hk.get HR3.out id); have HK4 := hid (HK3.out.trans hk)
  clear hk
  clear s0 s1 s2 t0 t1 t2
  have nA := heap_alloc_new w4 (.cells (nC false (fun _ => 0)) 183)
  have kA := (Keep.refl (fun _ => False) w4).alloc (.cells (nC false (fun _ => 0)) 183)
  obtain ⟨w5, hst, hN, hks⟩ := num_store nA x.neg (dgN x.mag)
  have hkk : Keep (fun _ => False) w4 w5 := kA.trans' hks (fun i hi e => by omega)
  have HA5 := hid hN
  have HX5 := hid (hkk.get HX4.out id); have HY5 := hid (hkk.get HY4.out id); have HR5 := hid (hkk.get HR4.out id); have HK5 := hid (HK4.out.trans hkk)
  have HLA : Hid (sb + 1 + 1 < w4.heap.size) := hid (lt_of_heap HR4.out)
  clear nA kA hN hks hkk
  have hszn := nC_size x.neg (dgN x.mag)
  go_upto_region 4 with fail
  clear hszn
  clear hst
  (try clear s0 s1 s2 t0 t1 t2)
  generalize w4.heap.size = aq at *
  have s0 : w5.cell? ⟨sb, 0, none⟩ = some (.bool x.neg) := cell_of HX5.out (by rfl)
  have s1 : w5.cell? ⟨sb, 1, none⟩ = some (.int .u64 (x.hi : Int)) := cell_of HX5.out (by rfl)
  have s2 : w5.cell? ⟨sb, 2, none⟩ = some (.int .u64 (x.lo : Int)) := cell_of HX5.out (by rfl)
  have t0 : w5.cell? ⟨sb + 1, 0, none⟩ = some (.bool y.neg) := cell_of HY5.out (by rfl)
  have t1 : w5.cell? ⟨sb + 1, 1, none⟩ = some (.int .u64 (y.hi : Int)) := cell_of HY5.out (by rfl)
  have t2 : w5.cell? ⟨sb + 1, 2, none⟩ = some (.int .u64 (y.lo : Int)) := cell_of HY5.out (by rfl)
  go_wp2_with fail
  refine (r_from y HFY.out w5).mono ?_
  rintro r w6 ⟨rfl, hk⟩
  have HX6 := hid (hk.get HX5.out id); have HY6 := hid (hk.get HY5.out id); have HR6 := hid (hk.get HR5.out id); have HK6 := hid (HK5.out.trans hk)
  have HA6 := hid (HA5.out.keep hk id)
  clear hk
  clear s0 s1 s2 t0 t1 t2
  have s0 : w6.cell? ⟨sb, 0, none⟩ = some (.bool x.neg) := cell_of HX6.out (by rfl)
  have s1 : w6.cell? ⟨sb, 1, none⟩ = some (.int .u64 (x.hi : Int)) := cell_of HX6.out (by rfl)
  have s2 : w6.cell? ⟨sb, 2, none⟩ = some (.int .u64 (x.lo : Int)) := cell_of HX6.out (by rfl)
  have t0 : w6.cell? ⟨sb + 1, 0, none⟩ = some (.bool y.neg) := cell_of HY6.out (by rfl)
  have t1 : w6.cell? ⟨sb + 1, 1, none⟩ = some (.int .u64 (y.hi : Int)) := cell_of HY6.out (by rfl)
  have t2 : w6.cell? ⟨sb + 1, 2, none⟩ = some (.int .u64 (y.lo : Int)) := cell_of HY6.out (by rfl)
  have nA := heap_alloc_new w6 (.cells (nC false (fun _ => 0)) 183)
  have kA := (Keep.refl (fun _ => False) w6).alloc (.cells (nC false (fun _ => 0)) 183)
  obtain ⟨w7, hst, hN, hks⟩ := num_store nA y.neg (dgN y.mag)
  have hkk : Keep (fun _ => False) w6 w7 := kA.trans' hks (fun i hi e => by omega)
  have HB7 := hid hN
  have HX7 := hid (hkk.get HX6.out id); have HY7 := hid (hkk.get HY6.out id); have HR7 := hid (hkk.get HR6.out id); have HK7 := hid (HK6.out.trans hkk)
  have HA7 := hid (HA6.out.keep hkk id)
  have HLB : Hid (sb + 1 + 1 < w6.heap.size) := hid (lt_of_heap HR6.out)
  have HQBHA : Hid (aq < w6.heap.size) := hid (lt_of_heap HA6.out)
  clear nA kA hN hks hkk
  have hszn := nC_size y.neg (dgN y.mag)
  go_upto_region 5 with fail
  clear hszn
  clear hst
  (try clear s0 s1 s2 t0 t1 t2)
  generalize w6.heap.size = bq at *
  have s0 : w7.cell? ⟨sb, 0, none⟩ = some (.bool x.neg) := cell_of HX7.out (by rfl)
  have s1 : w7.cell? ⟨sb, 1, none⟩ = some (.int .u64 (x.hi : Int)) := cell_of HX7.out (by rfl)
  have s2 : w7.cell? ⟨sb, 2, none⟩ = some (.int .u64 (x.lo : Int)) := cell_of HX7.out (by rfl)
  have t0 : w7.cell? ⟨sb + 1, 0, none⟩ = some (.bool y.neg) := cell_of HY7.out (by rfl)
  have t1 : w7.cell? ⟨sb + 1, 1, none⟩ = some (.int .u64 (y.hi : Int)) := cell_of HY7.out (by rfl)
  have t2 : w7.cell? ⟨sb + 1, 2, none⟩ = some (.int .u64 (y.lo : Int)) := cell_of HY7.out (by rfl)
  have nA := heap_alloc_new w7 (.cells (nC false (fun _ => 0)) 183)
  have kA := (Keep.refl (fun _ => False) w7).alloc (.cells (nC false (fun _ => 0)) 183)
  obtain ⟨w8, hst, hN, hks⟩ := num_store nA false (fun _ => 0)
  have hkk : Keep (fun _ => False) w7 w8 := kA.trans' hks (fun i hi e => by omega)
  have HC8 := hid hN
  have HX8 := hid (hkk.get HX7.out id); have HY8 := hid (hkk.get HY7.out id); have HR8 := hid (hkk.get HR7.out id); have HK8 := hid (HK7.out.trans hkk)
  have HA8 := hid (HA7.out.keep hkk id)
  have HB8 := hid (HB7.out.keep hkk id)
  have HLC : Hid (sb + 1 + 1 < w7.heap.size) := hid (lt_of_heap HR7.out)
  have HQCHA : Hid (aq < w7.heap.size) := hid (lt_of_heap HA7.out)
  have HQCHB : Hid (bq < w7.heap.size) := hid (lt_of_heap HB7.out)
  clear nA kA hN hks hkk
  have hszn := nC_size false (fun _ => 0)
  go_upto_region 6 with fail
  clear hszn
  clear hst
  (try clear s0 s1 s2 t0 t1 t2)
  generalize w7.heap.size = cq at *
  clear hz hsz
  have HNE : Hid (sb + 1 + 1 < aq ∧ aq < bq ∧ bq < cq) := hid ⟨by have := HLA.out; omega, by have := HQBHA.out; omega, by have := HQCHB.out; omega⟩
  clear HLA HLB HLC HQBHA HQCHA HQCHB
  go_wp2_with (first
    | (refine wpList_load_row rfl 183 _ rfl _ rfl _ _ _ _ HA8.out Tryz.underlying183 rfl (by rw [info_num, nC_size]) ?_)
    | (refine wpList_load_row rfl 183 _ rfl _ rfl _ _ _ _ HB8.out Tryz.underlying183 rfl (by rw [info_num, nC_size]) ?_)
    | fail)
  refine (r_add x.neg y.neg x.mag y.mag (small40 HFX.out) (small40 HFY.out) w8).mono ?_
  rintro r w9 ⟨rfl, hk⟩
  have HX9 := hid (hk.get HX8.out id); have HY9 := hid (hk.get HY8.out id); have HR9 := hid (hk.get HR8.out id); have HK9 := hid (HK8.out.trans hk)
  have HC9 := hid (HC8.out.keep hk id)
  clear hk
  obtain ⟨w10, hst, hN, hks⟩ := num_store HC9.out (addB x.neg y.neg x.mag y.mag) (dgN (addM x.neg y.neg x.mag y.mag))
  have HC10 := hid hN
  have HX10 := hid (hks.get HX9.out (by have := HNE.out; omega)); have HY10 := hid (hks.get HY9.out (by have := HNE.out; omega)); have HR10 := hid (hks.get HR9.out (by have := HNE.out; omega)); have HK10 := hid (HK9.out.trans' hks (fun i hi e => by have := HNE.out; have := HSB.out; omega))
  clear hN hks
  go_upto_region 20 with fail
  clear hst
  have HT := hid (r_to (addB x.neg y.neg x.mag y.mag) (addM x.neg y.neg x.mag y.mag) (addM_lt (small39 HFX.out) (small39 HFY.out)) w10)
  obtain ⟨z, is, hto⟩ : ∃ z is, toW (addB x.neg y.neg x.mag y.mag) (addM x.neg y.neg x.mag y.mag) = (z, is) := ⟨_, _, rfl⟩
  have HFI := hid ((add_fit HPX.out HPY.out).trans (fit_to hto))
  rw [hto] at HT
  clear hto
  go_wp2_with (first
    | (refine wpList_load_row rfl 183 _ rfl _ rfl _ _ _ _ HC10.out Tryz.underlying183 rfl (by rw [info_num, nC_size]) ?_)
    | fail)
  refine (HT.out).mono ?_
  rintro r w11 ⟨rfl, hk⟩
  have HX11 := hid (hk.get HX10.out id); have HY11 := hid (hk.get HY10.out id); have HR11 := hid (hk.get HR10.out id); have HK11 := hid (HK10.out.trans hk)
  clear hk
  clear HT
  obtain ⟨w12, hw9, hb9, hs9, hk9⟩ := box1 w11 (WC z) 30
  have HZ12 := hid hb9; have HR12 := hid (hk9.get HR11.out id); have HK12 := hid (HK11.out.trans hk9)
  clear hb9 hs9 hk9
  go_upto_region 21 with fail
  rw [← hw9]
  clear hw9
  generalize w11.heap.size = zq at *
  cases is
  · have HFE := hid (HFI.out.trans (if_neg (by simp)))
    have G := hid (HFE.out)
    have d0 := cell_of HR12.out (i := 0) (by rfl)
    have d1 := cell_of HR12.out (i := 1) (by rfl)
    have d2 := cell_of HR12.out (i := 2) (by rfl)
    have e0 := free_of HR12.out 0
    have e1 := free_of HR12.out 1
    have e2 := free_of HR12.out 2
    have HKF := hid (((HK12.out.setCell_new (p := ⟨sb + 1 + 1, 0, none⟩) (by have := HSB.out; simp only; omega) (.bool false)).setCell_new (p := ⟨sb + 1 + 1, 1, none⟩) (by have := HSB.out; simp only; omega) (.int .u64 0)).setCell_new (p := ⟨sb + 1 + 1, 2, none⟩) (by have := HSB.out; simp only; omega) (.int .u64 0))
    go_wp2
    (try simp only [Exit.inBlock, Exit.then])
    refine bodyPost_ret (results_ct rfl _ rfl (load_intN (cells3 (.bool false) (.int .u64 0) (.int .u64 0) HR12.out))) rfl ?_
    exact ⟨by rw [G.out]; rfl, HKF.out⟩
  · have HFE := hid (HFI.out.trans (if_pos rfl))
    have d0 := cell_of HR12.out (i := 0) (by rfl)
    have d1 := cell_of HR12.out (i := 1) (by rfl)
    have d2 := cell_of HR12.out (i := 2) (by rfl)
    have e0 := free_of HR12.out 0
    have e1 := free_of HR12.out 1
    have e2 := free_of HR12.out 2
    have z0 : w12.cell? ⟨zq, 0, none⟩ = some (.bool z.neg) := cell_of HZ12.out (by rfl)
    have z1 : w12.cell? ⟨zq, 1, none⟩ = some (.int .u64 (z.hi : Int)) := cell_of HZ12.out (by rfl)
    have z2 : w12.cell? ⟨zq, 2, none⟩ = some (.int .u64 (z.lo : Int)) := cell_of HZ12.out (by rfl)
    have HKF := hid (((HK12.out.setCell_new (p := ⟨sb + 1 + 1, 0, none⟩) (by have := HSB.out; simp only; omega) (.bool z.neg)).setCell_new (p := ⟨sb + 1 + 1, 1, none⟩) (by have := HSB.out; simp only; omega) (.int .u64 (z.hi : Int))).setCell_new (p := ⟨sb + 1 + 1, 2, none⟩) (by have := HSB.out; simp only; omega) (.int .u64 (z.lo : Int)))
    go_wp2
    (try simp only [Exit.inBlock, Exit.then])
    refine bodyPost_ret (results_ct rfl _ rfl (load_intN (cells3 (.bool z.neg) (.int .u64 (z.hi : Int)) (.int .u64 (z.lo : Int)) HR12.out))) rfl ?_
    exact ⟨by rw [HFE.out]; rfl, HKF.out⟩

set_option maxRecDepth 20000 in
set_option maxHeartbeats 16000000 in
theorem r_do2 (x y : WI) (hx : x.fit) (hy : y.fit) (w : World) :
    Calls Tryz.prog 129 #[.int .i64 2, WV x, WV y] w fun r w' => r = .returned (.tuple #[WV (subW x y).1, iV (subW x y).2]) ∧ Keep (fun _ => False) w w' := by
  have HFX := hid hx; have HFY := hid hy
  clear hx hy
  obtain ⟨w1, hw1, hb1, hb2, hb3, hs1, hk1⟩ := box3 w (WC x) (WC y) #[.bool false, .int .u64 0, .int .u64 0] 30 30 30
  have HX1 := hid hb1; have HY1 := hid hb2; have HR1 := hid hb3; have HK1 := hid hk1
  clear hb1 hb2 hb3 hs1 hk1
  have hz := zero_num
  have hsz := nC_size false (fun _ => 0)
  go_enter Tryz.func129, Tryz.ntmps129
  go_upto_region 1 with fail
  rw [← hw1]
  clear hw1
  generalize hsb : w.heap.size = sb at *
  have HSB := hid hsb
  clear hsb
  have s0 : w1.cell? ⟨sb, 0, none⟩ = some (.bool x.neg) := cell_of HX1.out (by rfl)
  have s1 : w1.cell? ⟨sb, 1, none⟩ = some (.int .u64 (x.hi : Int)) := cell_of HX1.out (by rfl)
  have s2 : w1.cell? ⟨sb, 2, none⟩ = some (.int .u64 (x.lo : Int)) := cell_of HX1.out (by rfl)
  have t0 : w1.cell? ⟨sb + 1, 0, none⟩ = some (.bool y.neg) := cell_of HY1.out (by rfl)
  have t1 : w1.cell? ⟨sb + 1, 1, none⟩ = some (.int .u64 (y.hi : Int)) := cell_of HY1.out (by rfl)
  have t2 : w1.cell? ⟨sb + 1, 2, none⟩ = some (.int .u64 (y.lo : Int)) := cell_of HY1.out (by rfl)
  go_wp2_with fail
  refine (r_good x HFX.out w1).mono ?_
  rintro r w2 ⟨rfl, hk⟩
  have HX2 := hid (hk.get HX1.out id); have HY2 := hid (hk.get HY1.out id); have HR2 := hid (hk.get HR1.out id); have HK2 := hid (HK1.out.trans hk)
  clear hk
  clear s0 s1 s2 t0 t1 t2
  have s0 : w2.cell? ⟨sb, 0, none⟩ = some (.bool x.neg) := cell_of HX2.out (by rfl)
  have s1 : w2.cell? ⟨sb, 1, none⟩ = some (.int .u64 (x.hi : Int)) := cell_of HX2.out (by rfl)
  have s2 : w2.cell? ⟨sb, 2, none⟩ = some (.int .u64 (x.lo : Int)) := cell_of HX2.out (by rfl)
  have t0 : w2.cell? ⟨sb + 1, 0, none⟩ = some (.bool y.neg) := cell_of HY2.out (by rfl)
  have t1 : w2.cell? ⟨sb + 1, 1, none⟩ = some (.int .u64 (y.hi : Int)) := cell_of HY2.out (by rfl)
  have t2 : w2.cell? ⟨sb + 1, 2, none⟩ = some (.int .u64 (y.lo : Int)) := cell_of HY2.out (by rfl)
  cases hfx : x.form
  · have G := hid ((bad1 (y := y) (.inl hfx)).2.1)
    clear hfx
    have d0 := cell_of HR2.out (i := 0) (by rfl)
    have d1 := cell_of HR2.out (i := 1) (by rfl)
    have d2 := cell_of HR2.out (i := 2) (by rfl)
    have e0 := free_of HR2.out 0
    have e1 := free_of HR2.out 1
    have e2 := free_of HR2.out 2
    have HKF := hid (((HK2.out.setCell_new (p := ⟨sb + 1 + 1, 0, none⟩) (by have := HSB.out; simp only; omega) (.bool false)).setCell_new (p := ⟨sb + 1 + 1, 1, none⟩) (by have := HSB.out; simp only; omega) (.int .u64 0)).setCell_new (p := ⟨sb + 1 + 1, 2, none⟩) (by have := HSB.out; simp only; omega) (.int .u64 0))
    go_wp2
    (try simp only [Exit.inBlock, Exit.then])
    refine bodyPost_ret (results_ct rfl _ rfl (load_intN (cells3 (.bool false) (.int .u64 0) (.int .u64 0) HR2.out))) rfl ?_
    exact ⟨by rw [G.out]; rfl, HKF.out⟩
  have HPX := hid hfx
  clear hfx
  go_wp2_with fail
  refine (r_good y HFY.out w2).mono ?_
  rintro r w3 ⟨rfl, hk⟩
  have HX3 := hid (hk.get HX2.out id); have HY3 := hid (hk.get HY2.out id); have HR3 := hid (hk.get HR2.out id); have HK3 := hid (HK2.out.trans hk)
  clear hk
  clear s0 s1 s2 t0 t1 t2
  have s0 : w3.cell? ⟨sb, 0, none⟩ = some (.bool x.neg) := cell_of HX3.out (by rfl)
  have s1 : w3.cell? ⟨sb, 1, none⟩ = some (.int .u64 (x.hi : Int)) := cell_of HX3.out (by rfl)
  have s2 : w3.cell? ⟨sb, 2, none⟩ = some (.int .u64 (x.lo : Int)) := cell_of HX3.out (by rfl)
  have t0 : w3.cell? ⟨sb + 1, 0, none⟩ = some (.bool y.neg) := cell_of HY3.out (by rfl)
  have t1 : w3.cell? ⟨sb + 1, 1, none⟩ = some (.int .u64 (y.hi : Int)) := cell_of HY3.out (by rfl)
  have t2 : w3.cell? ⟨sb + 1, 2, none⟩ = some (.int .u64 (y.lo : Int)) := cell_of HY3.out (by rfl)
  cases hfy : y.form
  · have G := hid ((bad1 (x := x) (.inr hfy)).2.1)
    clear hfy
    have d0 := cell_of HR3.out (i := 0) (by rfl)
    have d1 := cell_of HR3.out (i := 1) (by rfl)
    have d2 := cell_of HR3.out (i := 2) (by rfl)
    have e0 := free_of HR3.out 0
    have e1 := free_of HR3.out 1
    have e2 := free_of HR3.out 2
    have HKF := hid (((HK3.out.setCell_new (p := ⟨sb + 1 + 1, 0, none⟩) (by have := HSB.out; simp only; omega) (.bool false)).setCell_new (p := ⟨sb + 1 + 1, 1, none⟩) (by have := HSB.out; simp only; omega) (.int .u64 0)).setCell_new (p := ⟨sb + 1 + 1, 2, none⟩) (by have := HSB.out; simp only; omega) (.int .u64 0))
    go_wp2
    (try simp only [Exit.inBlock, Exit.then])
    refine bodyPost_ret (results_ct rfl _ rfl (load_intN (cells3 (.bool false) (.int .u64 0) (.int .u64 0) HR3.out))) rfl ?_
    exact ⟨by rw [G.out]; rfl, HKF.out⟩
  have HPY := hid hfy
  clear hfy
  go_wp2_with fail
  refine (r_from x HFX.out w3).mono ?_
  rintro r w4 ⟨rfl, hk⟩
  have HX4 := hid (hk.get HX3.out id); have HY4 := hid (hk.get HY3.out id); have HR4 := hid (hk.get HR3.out id); have HK4 := hid (HK3.out.trans hk)
  clear hk
  clear s0 s1 s2 t0 t1 t2
  have nA := heap_alloc_new w4 (.cells (nC false (fun _ => 0)) 183)
  have kA := (Keep.refl (fun _ => False) w4).alloc (.cells (nC false (fun _ => 0)) 183)
  obtain ⟨w5, hst, hN, hks⟩ := num_store nA x.neg (dgN x.mag)
  have hkk : Keep (fun _ => False) w4 w5 := kA.trans' hks (fun i hi e => by omega)
  have HA5 := hid hN
  have HX5 := hid (hkk.get HX4.out id); have HY5 := hid (hkk.get HY4.out id); have HR5 := hid (hkk.get HR4.out id); have HK5 := hid (HK4.out.trans hkk)
  have HLA : Hid (sb + 1 + 1 < w4.heap.size) := hid (lt_of_heap HR4.out)
  clear nA kA hN hks hkk
  have hszn := nC_size x.neg (dgN x.mag)
  go_upto_region 4 with fail
  clear hszn
  clear hst
  (try clear s0 s1 s2 t0 t1 t2)
  generalize w4.heap.size = aq at *
  have s0 : w5.cell? ⟨sb, 0, none⟩ = some (.bool x.neg) := cell_of HX5.out (by rfl)
  have s1 : w5.cell? ⟨sb, 1, none⟩ = some (.int .u64 (x.hi : Int)) := cell_of HX5.out (by rfl)
  have s2 : w5.cell? ⟨sb, 2, none⟩ = some (.int .u64 (x.lo : Int)) := cell_of HX5.out (by rfl)
  have t0 : w5.cell? ⟨sb + 1, 0, none⟩ = some (.bool y.neg) := cell_of HY5.out (by rfl)
  have t1 : w5.cell? ⟨sb + 1, 1, none⟩ = some (.int .u64 (y.hi : Int)) := cell_of HY5.out (by rfl)
  have t2 : w5.cell? ⟨sb + 1, 2, none⟩ = some (.int .u64 (y.lo : Int)) := cell_of HY5.out (by rfl)
  go_wp2_with fail
  refine (r_from y HFY.out w5).mono ?_
  rintro r w6 ⟨rfl, hk⟩
  have HX6 := hid (hk.get HX5.out id); have HY6 := hid (hk.get HY5.out id); have HR6 := hid (hk.get HR5.out id); have HK6 := hid (HK5.out.trans hk)
  have HA6 := hid (HA5.out.keep hk id)
  clear hk
  clear s0 s1 s2 t0 t1 t2
  have s0 : w6.cell? ⟨sb, 0, none⟩ = some (.bool x.neg) := cell_of HX6.out (by rfl)
  have s1 : w6.cell? ⟨sb, 1, none⟩ = some (.int .u64 (x.hi : Int)) := cell_of HX6.out (by rfl)
  have s2 : w6.cell? ⟨sb, 2, none⟩ = some (.int .u64 (x.lo : Int)) := cell_of HX6.out (by rfl)
  have t0 : w6.cell? ⟨sb + 1, 0, none⟩ = some (.bool y.neg) := cell_of HY6.out (by rfl)
  have t1 : w6.cell? ⟨sb + 1, 1, none⟩ = some (.int .u64 (y.hi : Int)) := cell_of HY6.out (by rfl)
  have t2 : w6.cell? ⟨sb + 1, 2, none⟩ = some (.int .u64 (y.lo : Int)) := cell_of HY6.out (by rfl)
  have nA := heap_alloc_new w6 (.cells (nC false (fun _ => 0)) 183)
  have kA := (Keep.refl (fun _ => False) w6).alloc (.cells (nC false (fun _ => 0)) 183)
  obtain ⟨w7, hst, hN, hks⟩ := num_store nA y.neg (dgN y.mag)
  have hkk : Keep (fun _ => False) w6 w7 := kA.trans' hks (fun i hi e => by omega)
  have HB7 := hid hN
  have HX7 := hid (hkk.get HX6.out id); have HY7 := hid (hkk.get HY6.out id); have HR7 := hid (hkk.get HR6.out id); have HK7 := hid (HK6.out.trans hkk)
  have HA7 := hid (HA6.out.keep hkk id)
  have HLB : Hid (sb + 1 + 1 < w6.heap.size) := hid (lt_of_heap HR6.out)
  have HQBHA : Hid (aq < w6.heap.size) := hid (lt_of_heap HA6.out)
  clear nA kA hN hks hkk
  have hszn := nC_size y.neg (dgN y.mag)
  go_upto_region 5 with fail
  clear hszn
  clear hst
  (try clear s0 s1 s2 t0 t1 t2)
  generalize w6.heap.size = bq at *
  have s0 : w7.cell? ⟨sb, 0, none⟩ = some (.bool x.neg) := cell_of HX7.out (by rfl)
  have s1 : w7.cell? ⟨sb, 1, none⟩ = some (.int .u64 (x.hi : Int)) := cell_of HX7.out (by rfl)
  have s2 : w7.cell? ⟨sb, 2, none⟩ = some (.int .u64 (x.lo : Int)) := cell_of HX7.out (by rfl)
  have t0 : w7.cell? ⟨sb + 1, 0, none⟩ = some (.bool y.neg) := cell_of HY7.out (by rfl)
  have t1 : w7.cell? ⟨sb + 1, 1, none⟩ = some (.int .u64 (y.hi : Int)) := cell_of HY7.out (by rfl)
  have t2 : w7.cell? ⟨sb + 1, 2, none⟩ = some (.int .u64 (y.lo : Int)) := cell_of HY7.out (by rfl)
  have nA := heap_alloc_new w7 (.cells (nC false (fun _ => 0)) 183)
  have kA := (Keep.refl (fun _ => False) w7).alloc (.cells (nC false (fun _ => 0)) 183)
  obtain ⟨w8, hst, hN, hks⟩ := num_store nA false (fun _ => 0)
  have hkk : Keep (fun _ => False) w7 w8 := kA.trans' hks (fun i hi e => by omega)
  have HC8 := hid hN
  have HX8 := hid (hkk.get HX7.out id); have HY8 := hid (hkk.get HY7.out id); have HR8 := hid (hkk.get HR7.out id); have HK8 := hid (HK7.out.trans hkk)
  have HA8 := hid (HA7.out.keep hkk id)
  have HB8 := hid (HB7.out.keep hkk id)
  have HLC : Hid (sb + 1 + 1 < w7.heap.size) := hid (lt_of_heap HR7.out)
  have HQCHA : Hid (aq < w7.heap.size) := hid (lt_of_heap HA7.out)
  have HQCHB : Hid (bq < w7.heap.size) := hid (lt_of_heap HB7.out)
  clear nA kA hN hks hkk
  have hszn := nC_size false (fun _ => 0)
  go_upto_region 6 with fail
  clear hszn
  clear hst
  (try clear s0 s1 s2 t0 t1 t2)
  generalize w7.heap.size = cq at *
  clear hz hsz
  have HNE : Hid (sb + 1 + 1 < aq ∧ aq < bq ∧ bq < cq) := hid ⟨by have := HLA.out; omega, by have := HQBHA.out; omega, by have := HQCHB.out; omega⟩
  clear HLA HLB HLC HQBHA HQCHA HQCHB
  have c9 := HB8.out.neg
  have f9 := HB8.out.free 0
  have HB9 := hid (HB8.out.sign (!y.neg))
  have hks := (Keep.refl (fun q => q = bq) w8).setCell (p := ⟨bq, 0, none⟩) rfl (.bool (!y.neg))
  have HX9 := hid (hks.get HX8.out (by have := HNE.out; omega)); have HY9 := hid (hks.get HY8.out (by have := HNE.out; omega)); have HR9 := hid (hks.get HR8.out (by have := HNE.out; omega)); have HK9 := hid (HK8.out.trans' hks (fun i hi e => by have := HNE.out; have := HSB.out; omega))
  have HA9 := hid (HA8.out.keep hks (by have := HNE.out; omega))
  have HC9 := hid (HC8.out.keep hks (by have := HNE.out; omega))
  clear hks
  go_upto_region 17 with fail
  clear c9 f9
  generalize w8.setCell ⟨bq, 0, none⟩ (.bool (!y.neg)) = w9 at *
  go_wp2_with (first
    | (refine wpList_load_row rfl 183 _ rfl _ rfl _ _ _ _ HA9.out Tryz.underlying183 rfl (by rw [info_num, nC_size]) ?_)
    | (refine wpList_load_row rfl 183 _ rfl _ rfl _ _ _ _ HB9.out Tryz.underlying183 rfl (by rw [info_num, nC_size]) ?_)
    | fail)
  refine (r_add x.neg (!y.neg) x.mag y.mag (small40 HFX.out) (small40 HFY.out) w9).mono ?_
  rintro r w10 ⟨rfl, hk⟩
  have HX10 := hid (hk.get HX9.out id); have HY10 := hid (hk.get HY9.out id); have HR10 := hid (hk.get HR9.out id); have HK10 := hid (HK9.out.trans hk)
  have HC10 := hid (HC9.out.keep hk id)
  clear hk
  obtain ⟨w11, hst, hN, hks⟩ := num_store HC10.out (addB x.neg (!y.neg) x.mag y.mag) (dgN (addM x.neg (!y.neg) x.mag y.mag))
  have HC11 := hid hN
  have HX11 := hid (hks.get HX10.out (by have := HNE.out; omega)); have HY11 := hid (hks.get HY10.out (by have := HNE.out; omega)); have HR11 := hid (hks.get HR10.out (by have := HNE.out; omega)); have HK11 := hid (HK10.out.trans' hks (fun i hi e => by have := HNE.out; have := HSB.out; omega))
  clear hN hks
  go_upto_region 20 with fail
  clear hst
  have HT := hid (r_to (addB x.neg (!y.neg) x.mag y.mag) (addM x.neg (!y.neg) x.mag y.mag) (addM_lt (small39 HFX.out) (small39 HFY.out)) w11)
  obtain ⟨z, is, hto⟩ : ∃ z is, toW (addB x.neg (!y.neg) x.mag y.mag) (addM x.neg (!y.neg) x.mag y.mag) = (z, is) := ⟨_, _, rfl⟩
  have HFI := hid ((sub_fit HPX.out HPY.out HFY.out).trans (fit_to hto))
  rw [hto] at HT
  clear hto
  go_wp2_with (first
    | (refine wpList_load_row rfl 183 _ rfl _ rfl _ _ _ _ HC11.out Tryz.underlying183 rfl (by rw [info_num, nC_size]) ?_)
    | fail)
  refine (HT.out).mono ?_
  rintro r w12 ⟨rfl, hk⟩
  have HX12 := hid (hk.get HX11.out id); have HY12 := hid (hk.get HY11.out id); have HR12 := hid (hk.get HR11.out id); have HK12 := hid (HK11.out.trans hk)
  clear hk
  clear HT
  obtain ⟨w13, hw9, hb9, hs9, hk9⟩ := box1 w12 (WC z) 30
  have HZ13 := hid hb9; have HR13 := hid (hk9.get HR12.out id); have HK13 := hid (HK12.out.trans hk9)
  clear hb9 hs9 hk9
  go_upto_region 21 with fail
  rw [← hw9]
  clear hw9
  generalize w12.heap.size = zq at *
  cases is
  · have HFE := hid (HFI.out.trans (if_neg (by simp)))
    have G := hid (HFE.out)
    have d0 := cell_of HR13.out (i := 0) (by rfl)
    have d1 := cell_of HR13.out (i := 1) (by rfl)
    have d2 := cell_of HR13.out (i := 2) (by rfl)
    have e0 := free_of HR13.out 0
    have e1 := free_of HR13.out 1
    have e2 := free_of HR13.out 2
    have HKF := hid (((HK13.out.setCell_new (p := ⟨sb + 1 + 1, 0, none⟩) (by have := HSB.out; simp only; omega) (.bool false)).setCell_new (p := ⟨sb + 1 + 1, 1, none⟩) (by have := HSB.out; simp only; omega) (.int .u64 0)).setCell_new (p := ⟨sb + 1 + 1, 2, none⟩) (by have := HSB.out; simp only; omega) (.int .u64 0))
    go_wp2
    (try simp only [Exit.inBlock, Exit.then])
    refine bodyPost_ret (results_ct rfl _ rfl (load_intN (cells3 (.bool false) (.int .u64 0) (.int .u64 0) HR13.out))) rfl ?_
    exact ⟨by rw [G.out]; rfl, HKF.out⟩
  · have HFE := hid (HFI.out.trans (if_pos rfl))
    have d0 := cell_of HR13.out (i := 0) (by rfl)
    have d1 := cell_of HR13.out (i := 1) (by rfl)
    have d2 := cell_of HR13.out (i := 2) (by rfl)
    have e0 := free_of HR13.out 0
    have e1 := free_of HR13.out 1
    have e2 := free_of HR13.out 2
    have z0 : w13.cell? ⟨zq, 0, none⟩ = some (.bool z.neg) := cell_of HZ13.out (by rfl)
    have z1 : w13.cell? ⟨zq, 1, none⟩ = some (.int .u64 (z.hi : Int)) := cell_of HZ13.out (by rfl)
    have z2 : w13.cell? ⟨zq, 2, none⟩ = some (.int .u64 (z.lo : Int)) := cell_of HZ13.out (by rfl)
    have HKF := hid (((HK13.out.setCell_new (p := ⟨sb + 1 + 1, 0, none⟩) (by have := HSB.out; simp only; omega) (.bool z.neg)).setCell_new (p := ⟨sb + 1 + 1, 1, none⟩) (by have := HSB.out; simp only; omega) (.int .u64 (z.hi : Int))).setCell_new (p := ⟨sb + 1 + 1, 2, none⟩) (by have := HSB.out; simp only; omega) (.int .u64 (z.lo : Int)))
    go_wp2
    (try simp only [Exit.inBlock, Exit.then])
    refine bodyPost_ret (results_ct rfl _ rfl (load_intN (cells3 (.bool z.neg) (.int .u64 (z.hi : Int)) (.int .u64 (z.lo : Int)) HR13.out))) rfl ?_
    exact ⟨by rw [HFE.out]; rfl, HKF.out⟩

set_option maxRecDepth 20000 in
set_option maxHeartbeats 16000000 in
theorem r_do3 (x y : WI) (hx : x.fit) (hy : y.fit) (w : World) :
    Calls Tryz.prog 129 #[.int .i64 3, WV x, WV y] w fun r w' => r = .returned (.tuple #[WV (mulW x y).1, iV (mulW x y).2]) ∧ Keep (fun _ => False) w w' := by
  have HFX := hid hx; have HFY := hid hy
  clear hx hy
  obtain ⟨w1, hw1, hb1, hb2, hb3, hs1, hk1⟩ := box3 w (WC x) (WC y) #[.bool false, .int .u64 0, .int .u64 0] 30 30 30
  have HX1 := hid hb1; have HY1 := hid hb2; have HR1 := hid hb3; have HK1 := hid hk1
  clear hb1 hb2 hb3 hs1 hk1
  have hz := zero_num
  have hsz := nC_size false (fun _ => 0)
  go_enter Tryz.func129, Tryz.ntmps129
  go_upto_region 1 with fail
  rw [← hw1]
  clear hw1
  generalize hsb : w.heap.size = sb at *
  have HSB := hid hsb
  clear hsb
  have s0 : w1.cell? ⟨sb, 0, none⟩ = some (.bool x.neg) := cell_of HX1.out (by rfl)
  have s1 : w1.cell? ⟨sb, 1, none⟩ = some (.int .u64 (x.hi : Int)) := cell_of HX1.out (by rfl)
  have s2 : w1.cell? ⟨sb, 2, none⟩ = some (.int .u64 (x.lo : Int)) := cell_of HX1.out (by rfl)
  have t0 : w1.cell? ⟨sb + 1, 0, none⟩ = some (.bool y.neg) := cell_of HY1.out (by rfl)
  have t1 : w1.cell? ⟨sb + 1, 1, none⟩ = some (.int .u64 (y.hi : Int)) := cell_of HY1.out (by rfl)
  have t2 : w1.cell? ⟨sb + 1, 2, none⟩ = some (.int .u64 (y.lo : Int)) := cell_of HY1.out (by rfl)
  go_wp2_with fail
  refine (r_good x HFX.out w1).mono ?_
  rintro r w2 ⟨rfl, hk⟩
  have HX2 := hid (hk.get HX1.out id); have HY2 := hid (hk.get HY1.out id); have HR2 := hid (hk.get HR1.out id); have HK2 := hid (HK1.out.trans hk)
  clear hk
  clear s0 s1 s2 t0 t1 t2
  have s0 : w2.cell? ⟨sb, 0, none⟩ = some (.bool x.neg) := cell_of HX2.out (by rfl)
  have s1 : w2.cell? ⟨sb, 1, none⟩ = some (.int .u64 (x.hi : Int)) := cell_of HX2.out (by rfl)
  have s2 : w2.cell? ⟨sb, 2, none⟩ = some (.int .u64 (x.lo : Int)) := cell_of HX2.out (by rfl)
  have t0 : w2.cell? ⟨sb + 1, 0, none⟩ = some (.bool y.neg) := cell_of HY2.out (by rfl)
  have t1 : w2.cell? ⟨sb + 1, 1, none⟩ = some (.int .u64 (y.hi : Int)) := cell_of HY2.out (by rfl)
  have t2 : w2.cell? ⟨sb + 1, 2, none⟩ = some (.int .u64 (y.lo : Int)) := cell_of HY2.out (by rfl)
  cases hfx : x.form
  · have G := hid ((bad1 (y := y) (.inl hfx)).2.2.1)
    clear hfx
    have d0 := cell_of HR2.out (i := 0) (by rfl)
    have d1 := cell_of HR2.out (i := 1) (by rfl)
    have d2 := cell_of HR2.out (i := 2) (by rfl)
    have e0 := free_of HR2.out 0
    have e1 := free_of HR2.out 1
    have e2 := free_of HR2.out 2
    have HKF := hid (((HK2.out.setCell_new (p := ⟨sb + 1 + 1, 0, none⟩) (by have := HSB.out; simp only; omega) (.bool false)).setCell_new (p := ⟨sb + 1 + 1, 1, none⟩) (by have := HSB.out; simp only; omega) (.int .u64 0)).setCell_new (p := ⟨sb + 1 + 1, 2, none⟩) (by have := HSB.out; simp only; omega) (.int .u64 0))
    go_wp2
    (try simp only [Exit.inBlock, Exit.then])
    refine bodyPost_ret (results_ct rfl _ rfl (load_intN (cells3 (.bool false) (.int .u64 0) (.int .u64 0) HR2.out))) rfl ?_
    exact ⟨by rw [G.out]; rfl, HKF.out⟩
  have HPX := hid hfx
  clear hfx
  go_wp2_with fail
  refine (r_good y HFY.out w2).mono ?_
  rintro r w3 ⟨rfl, hk⟩
  have HX3 := hid (hk.get HX2.out id); have HY3 := hid (hk.get HY2.out id); have HR3 := hid (hk.get HR2.out id); have HK3 := hid (HK2.out.trans hk)
  clear hk
  clear s0 s1 s2 t0 t1 t2
  have s0 : w3.cell? ⟨sb, 0, none⟩ = some (.bool x.neg) := cell_of HX3.out (by rfl)
  have s1 : w3.cell? ⟨sb, 1, none⟩ = some (.int .u64 (x.hi : Int)) := cell_of HX3.out (by rfl)
  have s2 : w3.cell? ⟨sb, 2, none⟩ = some (.int .u64 (x.lo : Int)) := cell_of HX3.out (by rfl)
  have t0 : w3.cell? ⟨sb + 1, 0, none⟩ = some (.bool y.neg) := cell_of HY3.out (by rfl)
  have t1 : w3.cell? ⟨sb + 1, 1, none⟩ = some (.int .u64 (y.hi : Int)) := cell_of HY3.out (by rfl)
  have t2 : w3.cell? ⟨sb + 1, 2, none⟩ = some (.int .u64 (y.lo : Int)) := cell_of HY3.out (by rfl)
  cases hfy : y.form
  · have G := hid ((bad1 (x := x) (.inr hfy)).2.2.1)
    clear hfy
    have d0 := cell_of HR3.out (i := 0) (by rfl)
    have d1 := cell_of HR3.out (i := 1) (by rfl)
    have d2 := cell_of HR3.out (i := 2) (by rfl)
    have e0 := free_of HR3.out 0
    have e1 := free_of HR3.out 1
    have e2 := free_of HR3.out 2
    have HKF := hid (((HK3.out.setCell_new (p := ⟨sb + 1 + 1, 0, none⟩) (by have := HSB.out; simp only; omega) (.bool false)).setCell_new (p := ⟨sb + 1 + 1, 1, none⟩) (by have := HSB.out; simp only; omega) (.int .u64 0)).setCell_new (p := ⟨sb + 1 + 1, 2, none⟩) (by have := HSB.out; simp only; omega) (.int .u64 0))
    go_wp2
    (try simp only [Exit.inBlock, Exit.then])
    refine bodyPost_ret (results_ct rfl _ rfl (load_intN (cells3 (.bool false) (.int .u64 0) (.int .u64 0) HR3.out))) rfl ?_
    exact ⟨by rw [G.out]; rfl, HKF.out⟩
  have HPY := hid hfy
  clear hfy
  go_wp2_with fail
  refine (r_from x HFX.out w3).mono ?_
  rintro r w4 ⟨rfl, hk⟩
  have HX4 := hid (hk.get HX3.out id); have HY4 := hid (hk.get HY3.out id); have HR4 := hid (hk.get HR3.out id); have HK4 := hid (HK3.out.trans hk)
  clear hk
  clear s0 s1 s2 t0 t1 t2
  have nA := heap_alloc_new w4 (.cells (nC false (fun _ => 0)) 183)
  have kA := (Keep.refl (fun _ => False) w4).alloc (.cells (nC false (fun _ => 0)) 183)
  obtain ⟨w5, hst, hN, hks⟩ := num_store nA x.neg (dgN x.mag)
  have hkk : Keep (fun _ => False) w4 w5 := kA.trans' hks (fun i hi e => by omega)
  have HA5 := hid hN
  have HX5 := hid (hkk.get HX4.out id); have HY5 := hid (hkk.get HY4.out id); have HR5 := hid (hkk.get HR4.out id); have HK5 := hid (HK4.out.trans hkk)
  have HLA : Hid (sb + 1 + 1 < w4.heap.size) := hid (lt_of_heap HR4.out)
  clear nA kA hN hks hkk
  have hszn := nC_size x.neg (dgN x.mag)
  go_upto_region 4 with fail
  clear hszn
  clear hst
  (try clear s0 s1 s2 t0 t1 t2)
  generalize w4.heap.size = aq at *
  have s0 : w5.cell? ⟨sb, 0, none⟩ = some (.bool x.neg) := cell_of HX5.out (by rfl)
  have s1 : w5.cell? ⟨sb, 1, none⟩ = some (.int .u64 (x.hi : Int)) := cell_of HX5.out (by rfl)
  have s2 : w5.cell? ⟨sb, 2, none⟩ = some (.int .u64 (x.lo : Int)) := cell_of HX5.out (by rfl)
  have t0 : w5.cell? ⟨sb + 1, 0, none⟩ = some (.bool y.neg) := cell_of HY5.out (by rfl)
  have t1 : w5.cell? ⟨sb + 1, 1, none⟩ = some (.int .u64 (y.hi : Int)) := cell_of HY5.out (by rfl)
  have t2 : w5.cell? ⟨sb + 1, 2, none⟩ = some (.int .u64 (y.lo : Int)) := cell_of HY5.out (by rfl)
  go_wp2_with fail
  refine (r_from y HFY.out w5).mono ?_
  rintro r w6 ⟨rfl, hk⟩
  have HX6 := hid (hk.get HX5.out id); have HY6 := hid (hk.get HY5.out id); have HR6 := hid (hk.get HR5.out id); have HK6 := hid (HK5.out.trans hk)
  have HA6 := hid (HA5.out.keep hk id)
  clear hk
  clear s0 s1 s2 t0 t1 t2
  have s0 : w6.cell? ⟨sb, 0, none⟩ = some (.bool x.neg) := cell_of HX6.out (by rfl)
  have s1 : w6.cell? ⟨sb, 1, none⟩ = some (.int .u64 (x.hi : Int)) := cell_of HX6.out (by rfl)
  have s2 : w6.cell? ⟨sb, 2, none⟩ = some (.int .u64 (x.lo : Int)) := cell_of HX6.out (by rfl)
  have t0 : w6.cell? ⟨sb + 1, 0, none⟩ = some (.bool y.neg) := cell_of HY6.out (by rfl)
  have t1 : w6.cell? ⟨sb + 1, 1, none⟩ = some (.int .u64 (y.hi : Int)) := cell_of HY6.out (by rfl)
  have t2 : w6.cell? ⟨sb + 1, 2, none⟩ = some (.int .u64 (y.lo : Int)) := cell_of HY6.out (by rfl)
  have nA := heap_alloc_new w6 (.cells (nC false (fun _ => 0)) 183)
  have kA := (Keep.refl (fun _ => False) w6).alloc (.cells (nC false (fun _ => 0)) 183)
  obtain ⟨w7, hst, hN, hks⟩ := num_store nA y.neg (dgN y.mag)
  have hkk : Keep (fun _ => False) w6 w7 := kA.trans' hks (fun i hi e => by omega)
  have HB7 := hid hN
  have HX7 := hid (hkk.get HX6.out id); have HY7 := hid (hkk.get HY6.out id); have HR7 := hid (hkk.get HR6.out id); have HK7 := hid (HK6.out.trans hkk)
  have HA7 := hid (HA6.out.keep hkk id)
  have HLB : Hid (sb + 1 + 1 < w6.heap.size) := hid (lt_of_heap HR6.out)
  have HQBHA : Hid (aq < w6.heap.size) := hid (lt_of_heap HA6.out)
  clear nA kA hN hks hkk
  have hszn := nC_size y.neg (dgN y.mag)
  go_upto_region 5 with fail
  clear hszn
  clear hst
  (try clear s0 s1 s2 t0 t1 t2)
  generalize w6.heap.size = bq at *
  have s0 : w7.cell? ⟨sb, 0, none⟩ = some (.bool x.neg) := cell_of HX7.out (by rfl)
  have s1 : w7.cell? ⟨sb, 1, none⟩ = some (.int .u64 (x.hi : Int)) := cell_of HX7.out (by rfl)
  have s2 : w7.cell? ⟨sb, 2, none⟩ = some (.int .u64 (x.lo : Int)) := cell_of HX7.out (by rfl)
  have t0 : w7.cell? ⟨sb + 1, 0, none⟩ = some (.bool y.neg) := cell_of HY7.out (by rfl)
  have t1 : w7.cell? ⟨sb + 1, 1, none⟩ = some (.int .u64 (y.hi : Int)) := cell_of HY7.out (by rfl)
  have t2 : w7.cell? ⟨sb + 1, 2, none⟩ = some (.int .u64 (y.lo : Int)) := cell_of HY7.out (by rfl)
  have nA := heap_alloc_new w7 (.cells (nC false (fun _ => 0)) 183)
  have kA := (Keep.refl (fun _ => False) w7).alloc (.cells (nC false (fun _ => 0)) 183)
  obtain ⟨w8, hst, hN, hks⟩ := num_store nA false (fun _ => 0)
  have hkk : Keep (fun _ => False) w7 w8 := kA.trans' hks (fun i hi e => by omega)
  have HC8 := hid hN
  have HX8 := hid (hkk.get HX7.out id); have HY8 := hid (hkk.get HY7.out id); have HR8 := hid (hkk.get HR7.out id); have HK8 := hid (HK7.out.trans hkk)
  have HA8 := hid (HA7.out.keep hkk id)
  have HB8 := hid (HB7.out.keep hkk id)
  have HLC : Hid (sb + 1 + 1 < w7.heap.size) := hid (lt_of_heap HR7.out)
  have HQCHA : Hid (aq < w7.heap.size) := hid (lt_of_heap HA7.out)
  have HQCHB : Hid (bq < w7.heap.size) := hid (lt_of_heap HB7.out)
  clear nA kA hN hks hkk
  have hszn := nC_size false (fun _ => 0)
  go_upto_region 6 with fail
  clear hszn
  clear hst
  (try clear s0 s1 s2 t0 t1 t2)
  generalize w7.heap.size = cq at *
  clear hz hsz
  have HNE : Hid (sb + 1 + 1 < aq ∧ aq < bq ∧ bq < cq) := hid ⟨by have := HLA.out; omega, by have := HQBHA.out; omega, by have := HQCHB.out; omega⟩
  clear HLA HLB HLC HQBHA HQCHA HQCHB
  have HMC := hid (r_mul x.neg y.neg x.mag y.mag (small16 HFX.out) (small16 HFY.out) w8)
  have HML := hid (mulM_lt (small16 HFX.out) (small16 HFY.out))
  have HMF := hid (mul_fit HPX.out HPY.out)
  obtain ⟨P, hP⟩ : ∃ P, x.mag * y.mag = P := ⟨_, rfl⟩
  rw [hP] at HMC HML HMF
  clear hP
  go_wp2_with (first
    | (refine wpList_load_row rfl 183 _ rfl _ rfl _ _ _ _ HA8.out Tryz.underlying183 rfl (by rw [info_num, nC_size]) ?_)
    | (refine wpList_load_row rfl 183 _ rfl _ rfl _ _ _ _ HB8.out Tryz.underlying183 rfl (by rw [info_num, nC_size]) ?_)
    | fail)
  refine (HMC.out).mono ?_
  rintro r w9 ⟨rfl, hk⟩
  have HX9 := hid (hk.get HX8.out id); have HY9 := hid (hk.get HY8.out id); have HR9 := hid (hk.get HR8.out id); have HK9 := hid (HK8.out.trans hk)
  have HC9 := hid (HC8.out.keep hk id)
  clear hk
  obtain ⟨w10, hst, hN, hks⟩ := num_store HC9.out (!(x.neg == y.neg)) (dgN (P))
  have HC10 := hid hN
  have HX10 := hid (hks.get HX9.out (by have := HNE.out; omega)); have HY10 := hid (hks.get HY9.out (by have := HNE.out; omega)); have HR10 := hid (hks.get HR9.out (by have := HNE.out; omega)); have HK10 := hid (HK9.out.trans' hks (fun i hi e => by have := HNE.out; have := HSB.out; omega))
  clear hN hks
  go_upto_region 20 with fail
  clear hst
  have HT := hid (r_to (!(x.neg == y.neg)) (P) (HML.out) w10)
  obtain ⟨z, is, hto⟩ : ∃ z is, toW (!(x.neg == y.neg)) (P) = (z, is) := ⟨_, _, rfl⟩
  have HFI := hid ((HMF.out).trans (fit_to hto))
  rw [hto] at HT
  clear hto
  go_wp2_with (first
    | (refine wpList_load_row rfl 183 _ rfl _ rfl _ _ _ _ HC10.out Tryz.underlying183 rfl (by rw [info_num, nC_size]) ?_)
    | fail)
  refine (HT.out).mono ?_
  rintro r w11 ⟨rfl, hk⟩
  have HX11 := hid (hk.get HX10.out id); have HY11 := hid (hk.get HY10.out id); have HR11 := hid (hk.get HR10.out id); have HK11 := hid (HK10.out.trans hk)
  clear hk
  clear HT
  obtain ⟨w12, hw9, hb9, hs9, hk9⟩ := box1 w11 (WC z) 30
  have HZ12 := hid hb9; have HR12 := hid (hk9.get HR11.out id); have HK12 := hid (HK11.out.trans hk9)
  clear hb9 hs9 hk9
  go_upto_region 21 with fail
  rw [← hw9]
  clear hw9
  generalize w11.heap.size = zq at *
  cases is
  · have HFE := hid (HFI.out.trans (if_neg (by simp)))
    have G := hid (HFE.out)
    have d0 := cell_of HR12.out (i := 0) (by rfl)
    have d1 := cell_of HR12.out (i := 1) (by rfl)
    have d2 := cell_of HR12.out (i := 2) (by rfl)
    have e0 := free_of HR12.out 0
    have e1 := free_of HR12.out 1
    have e2 := free_of HR12.out 2
    have HKF := hid (((HK12.out.setCell_new (p := ⟨sb + 1 + 1, 0, none⟩) (by have := HSB.out; simp only; omega) (.bool false)).setCell_new (p := ⟨sb + 1 + 1, 1, none⟩) (by have := HSB.out; simp only; omega) (.int .u64 0)).setCell_new (p := ⟨sb + 1 + 1, 2, none⟩) (by have := HSB.out; simp only; omega) (.int .u64 0))
    go_wp2
    (try simp only [Exit.inBlock, Exit.then])
    refine bodyPost_ret (results_ct rfl _ rfl (load_intN (cells3 (.bool false) (.int .u64 0) (.int .u64 0) HR12.out))) rfl ?_
    exact ⟨by rw [G.out]; rfl, HKF.out⟩
  · have HFE := hid (HFI.out.trans (if_pos rfl))
    have d0 := cell_of HR12.out (i := 0) (by rfl)
    have d1 := cell_of HR12.out (i := 1) (by rfl)
    have d2 := cell_of HR12.out (i := 2) (by rfl)
    have e0 := free_of HR12.out 0
    have e1 := free_of HR12.out 1
    have e2 := free_of HR12.out 2
    have z0 : w12.cell? ⟨zq, 0, none⟩ = some (.bool z.neg) := cell_of HZ12.out (by rfl)
    have z1 : w12.cell? ⟨zq, 1, none⟩ = some (.int .u64 (z.hi : Int)) := cell_of HZ12.out (by rfl)
    have z2 : w12.cell? ⟨zq, 2, none⟩ = some (.int .u64 (z.lo : Int)) := cell_of HZ12.out (by rfl)
    have HKF := hid (((HK12.out.setCell_new (p := ⟨sb + 1 + 1, 0, none⟩) (by have := HSB.out; simp only; omega) (.bool z.neg)).setCell_new (p := ⟨sb + 1 + 1, 1, none⟩) (by have := HSB.out; simp only; omega) (.int .u64 (z.hi : Int))).setCell_new (p := ⟨sb + 1 + 1, 2, none⟩) (by have := HSB.out; simp only; omega) (.int .u64 (z.lo : Int)))
    go_wp2
    (try simp only [Exit.inBlock, Exit.then])
    refine bodyPost_ret (results_ct rfl _ rfl (load_intN (cells3 (.bool z.neg) (.int .u64 (z.hi : Int)) (.int .u64 (z.lo : Int)) HR12.out))) rfl ?_
    exact ⟨by rw [HFE.out]; rfl, HKF.out⟩

set_option maxRecDepth 20000 in
set_option maxHeartbeats 16000000 in
theorem r_do4 (x y : WI) (hx : x.fit) (hy : y.fit) (w : World) :
    Calls Tryz.prog 129 #[.int .i64 4, WV x, WV y] w fun r w' => r = .returned (.tuple #[WV (quoW x y).1, iV (quoW x y).2]) ∧ Keep (fun _ => False) w w' := by
  have HFX := hid hx; have HFY := hid hy
  clear hx hy
  obtain ⟨w1, hw1, hb1, hb2, hb3, hs1, hk1⟩ := box3 w (WC x) (WC y) #[.bool false, .int .u64 0, .int .u64 0] 30 30 30
  have HX1 := hid hb1; have HY1 := hid hb2; have HR1 := hid hb3; have HK1 := hid hk1
  clear hb1 hb2 hb3 hs1 hk1
  have hz := zero_num
  have hsz := nC_size false (fun _ => 0)
  go_enter Tryz.func129, Tryz.ntmps129
  go_upto_region 1 with fail
  rw [← hw1]
  clear hw1
  generalize hsb : w.heap.size = sb at *
  have HSB := hid hsb
  clear hsb
  have s0 : w1.cell? ⟨sb, 0, none⟩ = some (.bool x.neg) := cell_of HX1.out (by rfl)
  have s1 : w1.cell? ⟨sb, 1, none⟩ = some (.int .u64 (x.hi : Int)) := cell_of HX1.out (by rfl)
  have s2 : w1.cell? ⟨sb, 2, none⟩ = some (.int .u64 (x.lo : Int)) := cell_of HX1.out (by rfl)
  have t0 : w1.cell? ⟨sb + 1, 0, none⟩ = some (.bool y.neg) := cell_of HY1.out (by rfl)
  have t1 : w1.cell? ⟨sb + 1, 1, none⟩ = some (.int .u64 (y.hi : Int)) := cell_of HY1.out (by rfl)
  have t2 : w1.cell? ⟨sb + 1, 2, none⟩ = some (.int .u64 (y.lo : Int)) := cell_of HY1.out (by rfl)
  go_wp2_with fail
  refine (r_good x HFX.out w1).mono ?_
  rintro r w2 ⟨rfl, hk⟩
  have HX2 := hid (hk.get HX1.out id); have HY2 := hid (hk.get HY1.out id); have HR2 := hid (hk.get HR1.out id); have HK2 := hid (HK1.out.trans hk)
  clear hk
  clear s0 s1 s2 t0 t1 t2
  have s0 : w2.cell? ⟨sb, 0, none⟩ = some (.bool x.neg) := cell_of HX2.out (by rfl)
  have s1 : w2.cell? ⟨sb, 1, none⟩ = some (.int .u64 (x.hi : Int)) := cell_of HX2.out (by rfl)
  have s2 : w2.cell? ⟨sb, 2, none⟩ = some (.int .u64 (x.lo : Int)) := cell_of HX2.out (by rfl)
  have t0 : w2.cell? ⟨sb + 1, 0, none⟩ = some (.bool y.neg) := cell_of HY2.out (by rfl)
  have t1 : w2.cell? ⟨sb + 1, 1, none⟩ = some (.int .u64 (y.hi : Int)) := cell_of HY2.out (by rfl)
  have t2 : w2.cell? ⟨sb + 1, 2, none⟩ = some (.int .u64 (y.lo : Int)) := cell_of HY2.out (by rfl)
  cases hfx : x.form
  · have G := hid ((bad1 (y := y) (.inl hfx)).2.2.2.1)
    clear hfx
    have d0 := cell_of HR2.out (i := 0) (by rfl)
    have d1 := cell_of HR2.out (i := 1) (by rfl)
    have d2 := cell_of HR2.out (i := 2) (by rfl)
    have e0 := free_of HR2.out 0
    have e1 := free_of HR2.out 1
    have e2 := free_of HR2.out 2
    have HKF := hid (((HK2.out.setCell_new (p := ⟨sb + 1 + 1, 0, none⟩) (by have := HSB.out; simp only; omega) (.bool false)).setCell_new (p := ⟨sb + 1 + 1, 1, none⟩) (by have := HSB.out; simp only; omega) (.int .u64 0)).setCell_new (p := ⟨sb + 1 + 1, 2, none⟩) (by have := HSB.out; simp only; omega) (.int .u64 0))
    go_wp2
    (try simp only [Exit.inBlock, Exit.then])
    refine bodyPost_ret (results_ct rfl _ rfl (load_intN (cells3 (.bool false) (.int .u64 0) (.int .u64 0) HR2.out))) rfl ?_
    exact ⟨by rw [G.out]; rfl, HKF.out⟩
  have HPX := hid hfx
  clear hfx
  go_wp2_with fail
  refine (r_good y HFY.out w2).mono ?_
  rintro r w3 ⟨rfl, hk⟩
  have HX3 := hid (hk.get HX2.out id); have HY3 := hid (hk.get HY2.out id); have HR3 := hid (hk.get HR2.out id); have HK3 := hid (HK2.out.trans hk)
  clear hk
  clear s0 s1 s2 t0 t1 t2
  have s0 : w3.cell? ⟨sb, 0, none⟩ = some (.bool x.neg) := cell_of HX3.out (by rfl)
  have s1 : w3.cell? ⟨sb, 1, none⟩ = some (.int .u64 (x.hi : Int)) := cell_of HX3.out (by rfl)
  have s2 : w3.cell? ⟨sb, 2, none⟩ = some (.int .u64 (x.lo : Int)) := cell_of HX3.out (by rfl)
  have t0 : w3.cell? ⟨sb + 1, 0, none⟩ = some (.bool y.neg) := cell_of HY3.out (by rfl)
  have t1 : w3.cell? ⟨sb + 1, 1, none⟩ = some (.int .u64 (y.hi : Int)) := cell_of HY3.out (by rfl)
  have t2 : w3.cell? ⟨sb + 1, 2, none⟩ = some (.int .u64 (y.lo : Int)) := cell_of HY3.out (by rfl)
  cases hfy : y.form
  · have G := hid ((bad1 (x := x) (.inr hfy)).2.2.2.1)
    clear hfy
    have d0 := cell_of HR3.out (i := 0) (by rfl)
    have d1 := cell_of HR3.out (i := 1) (by rfl)
    have d2 := cell_of HR3.out (i := 2) (by rfl)
    have e0 := free_of HR3.out 0
    have e1 := free_of HR3.out 1
    have e2 := free_of HR3.out 2
    have HKF := hid (((HK3.out.setCell_new (p := ⟨sb + 1 + 1, 0, none⟩) (by have := HSB.out; simp only; omega) (.bool false)).setCell_new (p := ⟨sb + 1 + 1, 1, none⟩) (by have := HSB.out; simp only; omega) (.int .u64 0)).setCell_new (p := ⟨sb + 1 + 1, 2, none⟩) (by have := HSB.out; simp only; omega) (.int .u64 0))
    go_wp2
    (try simp only [Exit.inBlock, Exit.then])
    refine bodyPost_ret (results_ct rfl _ rfl (load_intN (cells3 (.bool false) (.int .u64 0) (.int .u64 0) HR3.out))) rfl ?_
    exact ⟨by rw [G.out]; rfl, HKF.out⟩
  have HPY := hid hfy
  clear hfy
  by_cases hm0 : y.mag = 0
  · have hh := mag0.1 hm0
    have z1 : ((y.hi : Int) == 0) = true := by rw [hh.1]; rfl
    have z1n : (y.hi == 0) = true := by rw [hh.1]; rfl
    have z2 : ((y.lo : Int) == 0) = true := by rw [hh.2]; rfl
    have z2n : (y.lo == 0) = true := by rw [hh.2]; rfl
    have G := hid ((bad2 (x := x) hm0).1)
    clear hm0 hh
    have d0 := cell_of HR3.out (i := 0) (by rfl)
    have d1 := cell_of HR3.out (i := 1) (by rfl)
    have d2 := cell_of HR3.out (i := 2) (by rfl)
    have e0 := free_of HR3.out 0
    have e1 := free_of HR3.out 1
    have e2 := free_of HR3.out 2
    have HKF := hid (((HK3.out.setCell_new (p := ⟨sb + 1 + 1, 0, none⟩) (by have := HSB.out; simp only; omega) (.bool false)).setCell_new (p := ⟨sb + 1 + 1, 1, none⟩) (by have := HSB.out; simp only; omega) (.int .u64 0)).setCell_new (p := ⟨sb + 1 + 1, 2, none⟩) (by have := HSB.out; simp only; omega) (.int .u64 0))
    go_wp2
    (try simp only [Exit.inBlock, Exit.then])
    refine bodyPost_ret (results_ct rfl _ rfl (load_intN (cells3 (.bool false) (.int .u64 0) (.int .u64 0) HR3.out))) rfl ?_
    exact ⟨by rw [G.out]; rfl, HKF.out⟩
  have HM0 := hid hm0
  have hcase : y.hi ≠ 0 ∨ (y.hi = 0 ∧ y.lo ≠ 0) := by have := mt mag0.2 hm0; omega
  clear hm0
  rcases hcase with hcz | hcz
  all_goals
    first
      | (have z1 : ((y.hi : Int) == 0) = true := by rw [hcz.1]; rfl
         have z1n : (y.hi == 0) = true := by rw [hcz.1]; rfl
         have z2 : ((y.lo : Int) == 0) = false := by rw [beq_eq_false_iff_ne]; have := hcz.2; omega
         have z2n : (y.lo == 0) = false := by rw [beq_eq_false_iff_ne]; exact hcz.2)
      | (have z1 : ((y.hi : Int) == 0) = false := by rw [beq_eq_false_iff_ne]; omega
         have z1n : (y.hi == 0) = false := by rw [beq_eq_false_iff_ne]; exact hcz)
    clear hcz
    go_wp2_with fail
    refine (r_from x HFX.out w3).mono ?_
    rintro r w4 ⟨rfl, hk⟩
    have HX4 := hid (hk.get HX3.out id); have HY4 := hid (hk.get HY3.out id); have HR4 := hid (hk.get HR3.out id); have HK4 := hid (HK3.out.trans hk)
    clear hk
    clear z1 z1n
    (try clear z2 z2n)
    clear s0 s1 s2 t0 t1 t2
    have nA := heap_alloc_new w4 (.cells (nC false (fun _ => 0)) 183)
    have kA := (Keep.refl (fun _ => False) w4).alloc (.cells (nC false (fun _ => 0)) 183)
    obtain ⟨w5, hst, hN, hks⟩ := num_store nA x.neg (dgN x.mag)
    have hkk : Keep (fun _ => False) w4 w5 := kA.trans' hks (fun i hi e => by omega)
    have HA5 := hid hN
    have HX5 := hid (hkk.get HX4.out id); have HY5 := hid (hkk.get HY4.out id); have HR5 := hid (hkk.get HR4.out id); have HK5 := hid (HK4.out.trans hkk)
    have HLA : Hid (sb + 1 + 1 < w4.heap.size) := hid (lt_of_heap HR4.out)
    clear nA kA hN hks hkk
    have hszn := nC_size x.neg (dgN x.mag)
    go_upto_region 4 with fail
    clear hszn
    clear hst
    (try clear s0 s1 s2 t0 t1 t2)
    generalize w4.heap.size = aq at *
    have s0 : w5.cell? ⟨sb, 0, none⟩ = some (.bool x.neg) := cell_of HX5.out (by rfl)
    have s1 : w5.cell? ⟨sb, 1, none⟩ = some (.int .u64 (x.hi : Int)) := cell_of HX5.out (by rfl)
    have s2 : w5.cell? ⟨sb, 2, none⟩ = some (.int .u64 (x.lo : Int)) := cell_of HX5.out (by rfl)
    have t0 : w5.cell? ⟨sb + 1, 0, none⟩ = some (.bool y.neg) := cell_of HY5.out (by rfl)
    have t1 : w5.cell? ⟨sb + 1, 1, none⟩ = some (.int .u64 (y.hi : Int)) := cell_of HY5.out (by rfl)
    have t2 : w5.cell? ⟨sb + 1, 2, none⟩ = some (.int .u64 (y.lo : Int)) := cell_of HY5.out (by rfl)
    go_wp2_with fail
    refine (r_from y HFY.out w5).mono ?_
    rintro r w6 ⟨rfl, hk⟩
    have HX6 := hid (hk.get HX5.out id); have HY6 := hid (hk.get HY5.out id); have HR6 := hid (hk.get HR5.out id); have HK6 := hid (HK5.out.trans hk)
    have HA6 := hid (HA5.out.keep hk id)
    clear hk
    clear s0 s1 s2 t0 t1 t2
    have s0 : w6.cell? ⟨sb, 0, none⟩ = some (.bool x.neg) := cell_of HX6.out (by rfl)
    have s1 : w6.cell? ⟨sb, 1, none⟩ = some (.int .u64 (x.hi : Int)) := cell_of HX6.out (by rfl)
    have s2 : w6.cell? ⟨sb, 2, none⟩ = some (.int .u64 (x.lo : Int)) := cell_of HX6.out (by rfl)
    have t0 : w6.cell? ⟨sb + 1, 0, none⟩ = some (.bool y.neg) := cell_of HY6.out (by rfl)
    have t1 : w6.cell? ⟨sb + 1, 1, none⟩ = some (.int .u64 (y.hi : Int)) := cell_of HY6.out (by rfl)
    have t2 : w6.cell? ⟨sb + 1, 2, none⟩ = some (.int .u64 (y.lo : Int)) := cell_of HY6.out (by rfl)
    have nA := heap_alloc_new w6 (.cells (nC false (fun _ => 0)) 183)
    have kA := (Keep.refl (fun _ => False) w6).alloc (.cells (nC false (fun _ => 0)) 183)
    obtain ⟨w7, hst, hN, hks⟩ := num_store nA y.neg (dgN y.mag)
    have hkk : Keep (fun _ => False) w6 w7 := kA.trans' hks (fun i hi e => by omega)
    have HB7 := hid hN
    have HX7 := hid (hkk.get HX6.out id); have HY7 := hid (hkk.get HY6.out id); have HR7 := hid (hkk.get HR6.out id); have HK7 := hid (HK6.out.trans hkk)
    have HA7 := hid (HA6.out.keep hkk id)
    have HLB : Hid (sb + 1 + 1 < w6.heap.size) := hid (lt_of_heap HR6.out)
    have HQBHA : Hid (aq < w6.heap.size) := hid (lt_of_heap HA6.out)
    clear nA kA hN hks hkk
    have hszn := nC_size y.neg (dgN y.mag)
    go_upto_region 5 with fail
    clear hszn
    clear hst
    (try clear s0 s1 s2 t0 t1 t2)
    generalize w6.heap.size = bq at *
    have s0 : w7.cell? ⟨sb, 0, none⟩ = some (.bool x.neg) := cell_of HX7.out (by rfl)
    have s1 : w7.cell? ⟨sb, 1, none⟩ = some (.int .u64 (x.hi : Int)) := cell_of HX7.out (by rfl)
    have s2 : w7.cell? ⟨sb, 2, none⟩ = some (.int .u64 (x.lo : Int)) := cell_of HX7.out (by rfl)
    have t0 : w7.cell? ⟨sb + 1, 0, none⟩ = some (.bool y.neg) := cell_of HY7.out (by rfl)
    have t1 : w7.cell? ⟨sb + 1, 1, none⟩ = some (.int .u64 (y.hi : Int)) := cell_of HY7.out (by rfl)
    have t2 : w7.cell? ⟨sb + 1, 2, none⟩ = some (.int .u64 (y.lo : Int)) := cell_of HY7.out (by rfl)
    have nA := heap_alloc_new w7 (.cells (nC false (fun _ => 0)) 183)
    have kA := (Keep.refl (fun _ => False) w7).alloc (.cells (nC false (fun _ => 0)) 183)
    obtain ⟨w8, hst, hN, hks⟩ := num_store nA false (fun _ => 0)
    have hkk : Keep (fun _ => False) w7 w8 := kA.trans' hks (fun i hi e => by omega)
    have HC8 := hid hN
    have HX8 := hid (hkk.get HX7.out id); have HY8 := hid (hkk.get HY7.out id); have HR8 := hid (hkk.get HR7.out id); have HK8 := hid (HK7.out.trans hkk)
    have HA8 := hid (HA7.out.keep hkk id)
    have HB8 := hid (HB7.out.keep hkk id)
    have HLC : Hid (sb + 1 + 1 < w7.heap.size) := hid (lt_of_heap HR7.out)
    have HQCHA : Hid (aq < w7.heap.size) := hid (lt_of_heap HA7.out)
    have HQCHB : Hid (bq < w7.heap.size) := hid (lt_of_heap HB7.out)
    clear nA kA hN hks hkk
    have hszn := nC_size false (fun _ => 0)
    go_upto_region 6 with fail
    clear hszn
    clear hst
    (try clear s0 s1 s2 t0 t1 t2)
    generalize w7.heap.size = cq at *
    clear hz hsz
    have HNE : Hid (sb + 1 + 1 < aq ∧ aq < bq ∧ bq < cq) := hid ⟨by have := HLA.out; omega, by have := HQBHA.out; omega, by have := HQCHB.out; omega⟩
    clear HLA HLB HLC HQBHA HQCHA HQCHB
    have HMC := hid (r_div x.neg y.neg x.mag y.mag (small40 HFX.out) (Nat.pos_of_ne_zero HM0.out) (small39 HFY.out) w8)
    have HQL := hid (Nat.lt_of_le_of_lt (Nat.div_le_self x.mag y.mag) (small40 HFX.out))
    have HRL := hid (Nat.lt_of_le_of_lt (Nat.mod_le x.mag y.mag) (small40 HFX.out))
    have HQF := hid (quo_fit HPX.out HPY.out HFX.out HM0.out)
    have HRF := hid (rem_fit HPX.out HPY.out HFX.out HM0.out)
    obtain ⟨QQ, hQQ⟩ : ∃ P, x.mag / y.mag = P := ⟨_, rfl⟩
    obtain ⟨RR, hRR⟩ : ∃ P, x.mag % y.mag = P := ⟨_, rfl⟩
    rw [hQQ] at HQL HQF
    rw [hRR] at HRL HRF
    rw [hQQ, hRR] at HMC
    clear hQQ hRR
    go_wp2_with (first
      | (refine wpList_load_row rfl 183 _ rfl _ rfl _ _ _ _ HA8.out Tryz.underlying183 rfl (by rw [info_num, nC_size]) ?_)
      | (refine wpList_load_row rfl 183 _ rfl _ rfl _ _ _ _ HB8.out Tryz.underlying183 rfl (by rw [info_num, nC_size]) ?_)
      | fail)
    refine (HMC.out).mono ?_
    rintro r w9 ⟨rfl, hk⟩
    have HX9 := hid (hk.get HX8.out id); have HY9 := hid (hk.get HY8.out id); have HR9 := hid (hk.get HR8.out id); have HK9 := hid (HK8.out.trans hk)
    have HC9 := hid (HC8.out.keep hk id)
    clear hk
    have hz := zero_num
    have hsz := nC_size false (fun _ => 0)
    have nP := heap_alloc_new w9 (.cells (nC false (fun _ => 0)) 183)
    have kP := (Keep.refl (fun _ => False) w9).alloc (.cells (nC false (fun _ => 0)) 183)
    obtain ⟨wp, hwp⟩ : ∃ wp, w9.alloc (.cells (nC false (fun _ => 0)) 183) = wp := ⟨_, rfl⟩
    have sP : wp.heap.size = w9.heap.size + 1 := by rw [← hwp]; simp
    have nQ := heap_alloc_new wp (.cells (nC false (fun _ => 0)) 183)
    have kQ := (Keep.refl (fun _ => False) wp).alloc (.cells (nC false (fun _ => 0)) 183)
    rw [sP] at nQ
    rw [hwp] at nP kP
    obtain ⟨wq, hst1, hN1, hks1⟩ := num_store (b := false) (D := fun _ => 0) (kQ.get nP id) false (dgN QQ)
    obtain ⟨w10, hst2, hN2, hks2⟩ := num_store (b := false) (D := fun _ => 0) (hks1.get nQ (by omega)) false (dgN RR)
    have lC := lt_of_heap HC9.out
    have hkk : Keep (fun _ => False) w9 w10 := ((kP.trans kQ).trans' hks1 (fun i hi e => by omega)).trans' hks2 (fun i hi e => by omega)
    have HP10 : Hid (NI false (dgN QQ) w10 w9.heap.size) := hid (hks2.get hN1 (by omega))
    have HQ10 : Hid (NI false (dgN RR) w10 (w9.heap.size + 1)) := hid hN2
    have HX10 := hid (hkk.get HX9.out id); have HY10 := hid (hkk.get HY9.out id); have HR10 := hid (hkk.get HR9.out id); have HK10 := hid (HK9.out.trans hkk); have HC10 := hid (HC9.out.keep hkk id)
    have HPQ : Hid (cq < w9.heap.size) := hid lC
    rw [← hwp] at hst1
    clear nP kP sP nQ kQ hN1 hks1 hN2 hks2 lC hkk hwp
    go_upto_region 8 with fail
    clear hst1 hst2 hz hsz
    generalize w9.heap.size = pq at *
    obtain ⟨w11, hst, hN, hks⟩ := num_store HC10.out false (dgN QQ)
    have HC11 := hid hN
    have HX11 := hid (hks.get HX10.out (by have := HNE.out; omega)); have HY11 := hid (hks.get HY10.out (by have := HNE.out; omega)); have HR11 := hid (hks.get HR10.out (by have := HNE.out; omega)); have HK11 := hid (HK10.out.trans' hks (fun i hi e => by have := HNE.out; have := HSB.out; omega))
    have HP11 := hid (HP10.out.keep hks (by have := HPQ.out; omega))
    have HQ11 := hid (HQ10.out.keep hks (by have := HPQ.out; omega))
    clear hN hks
    go_upto_region 9 with (refine wpList_load_row rfl 183 _ rfl _ rfl _ _ _ _ HP10.out Tryz.underlying183 rfl (by rw [info_num, nC_size]) ?_)
    clear hst
    have s0 : w11.cell? ⟨sb, 0, none⟩ = some (.bool x.neg) := cell_of HX11.out (by rfl)
    have s1 : w11.cell? ⟨sb, 1, none⟩ = some (.int .u64 (x.hi : Int)) := cell_of HX11.out (by rfl)
    have s2 : w11.cell? ⟨sb, 2, none⟩ = some (.int .u64 (x.lo : Int)) := cell_of HX11.out (by rfl)
    have t0 : w11.cell? ⟨sb + 1, 0, none⟩ = some (.bool y.neg) := cell_of HY11.out (by rfl)
    have t1 : w11.cell? ⟨sb + 1, 1, none⟩ = some (.int .u64 (y.hi : Int)) := cell_of HY11.out (by rfl)
    have t2 : w11.cell? ⟨sb + 1, 2, none⟩ = some (.int .u64 (y.lo : Int)) := cell_of HY11.out (by rfl)
    have c9 := HC11.out.neg
    have f9 := HC11.out.free 0
    have HC12 := hid (HC11.out.sign (!(x.neg == y.neg)))
    have hks := (Keep.refl (fun q => q = cq) w11).setCell (p := ⟨cq, 0, none⟩) rfl (.bool (!(x.neg == y.neg)))
    have HX12 := hid (hks.get HX11.out (by have := HNE.out; omega)); have HY12 := hid (hks.get HY11.out (by have := HNE.out; omega)); have HR12 := hid (hks.get HR11.out (by have := HNE.out; omega)); have HK12 := hid (HK11.out.trans' hks (fun i hi e => by have := HNE.out; have := HSB.out; omega))
    have HQ12 := hid (HQ11.out.keep hks (by have := HPQ.out; omega))
    clear hks
    go_upto_region 10 with fail
    clear c9 f9
    clear s0 s1 s2 t0 t1 t2
    generalize w11.setCell ⟨cq, 0, none⟩ (.bool (!(x.neg == y.neg))) = w12 at *
    go_upto_region 20 with fail
    have HT := hid (r_to (!(x.neg == y.neg)) (QQ) (HQL.out) w12)
    obtain ⟨z, is, hto⟩ : ∃ z is, toW (!(x.neg == y.neg)) (QQ) = (z, is) := ⟨_, _, rfl⟩
    have HFI := hid ((HQF.out).trans (fit_to hto))
    rw [hto] at HT
    clear hto
    go_wp2_with (first
      | (refine wpList_load_row rfl 183 _ rfl _ rfl _ _ _ _ HC12.out Tryz.underlying183 rfl (by rw [info_num, nC_size]) ?_)
      | fail)
    refine (HT.out).mono ?_
    rintro r w13 ⟨rfl, hk⟩
    have HX13 := hid (hk.get HX12.out id); have HY13 := hid (hk.get HY12.out id); have HR13 := hid (hk.get HR12.out id); have HK13 := hid (HK12.out.trans hk)
    clear hk
    clear HT
    obtain ⟨w14, hw9, hb9, hs9, hk9⟩ := box1 w13 (WC z) 30
    have HZ14 := hid hb9; have HR14 := hid (hk9.get HR13.out id); have HK14 := hid (HK13.out.trans hk9)
    clear hb9 hs9 hk9
    go_upto_region 21 with fail
    rw [← hw9]
    clear hw9
    generalize w13.heap.size = zq at *
    cases is
    · have HFE := hid (HFI.out.trans (if_neg (by simp)))
      have G := hid (HFE.out)
      have d0 := cell_of HR14.out (i := 0) (by rfl)
      have d1 := cell_of HR14.out (i := 1) (by rfl)
      have d2 := cell_of HR14.out (i := 2) (by rfl)
      have e0 := free_of HR14.out 0
      have e1 := free_of HR14.out 1
      have e2 := free_of HR14.out 2
      have HKF := hid (((HK14.out.setCell_new (p := ⟨sb + 1 + 1, 0, none⟩) (by have := HSB.out; simp only; omega) (.bool false)).setCell_new (p := ⟨sb + 1 + 1, 1, none⟩) (by have := HSB.out; simp only; omega) (.int .u64 0)).setCell_new (p := ⟨sb + 1 + 1, 2, none⟩) (by have := HSB.out; simp only; omega) (.int .u64 0))
      go_wp2
      (try simp only [Exit.inBlock, Exit.then])
      refine bodyPost_ret (results_ct rfl _ rfl (load_intN (cells3 (.bool false) (.int .u64 0) (.int .u64 0) HR14.out))) rfl ?_
      exact ⟨by rw [G.out]; rfl, HKF.out⟩
    · have HFE := hid (HFI.out.trans (if_pos rfl))
      have d0 := cell_of HR14.out (i := 0) (by rfl)
      have d1 := cell_of HR14.out (i := 1) (by rfl)
      have d2 := cell_of HR14.out (i := 2) (by rfl)
      have e0 := free_of HR14.out 0
      have e1 := free_of HR14.out 1
      have e2 := free_of HR14.out 2
      have z0 : w14.cell? ⟨zq, 0, none⟩ = some (.bool z.neg) := cell_of HZ14.out (by rfl)
      have z1 : w14.cell? ⟨zq, 1, none⟩ = some (.int .u64 (z.hi : Int)) := cell_of HZ14.out (by rfl)
      have z2 : w14.cell? ⟨zq, 2, none⟩ = some (.int .u64 (z.lo : Int)) := cell_of HZ14.out (by rfl)
      have HKF := hid (((HK14.out.setCell_new (p := ⟨sb + 1 + 1, 0, none⟩) (by have := HSB.out; simp only; omega) (.bool z.neg)).setCell_new (p := ⟨sb + 1 + 1, 1, none⟩) (by have := HSB.out; simp only; omega) (.int .u64 (z.hi : Int))).setCell_new (p := ⟨sb + 1 + 1, 2, none⟩) (by have := HSB.out; simp only; omega) (.int .u64 (z.lo : Int)))
      go_wp2
      (try simp only [Exit.inBlock, Exit.then])
      refine bodyPost_ret (results_ct rfl _ rfl (load_intN (cells3 (.bool z.neg) (.int .u64 (z.hi : Int)) (.int .u64 (z.lo : Int)) HR14.out))) rfl ?_
      exact ⟨by rw [HFE.out]; rfl, HKF.out⟩

set_option maxRecDepth 20000 in
set_option maxHeartbeats 16000000 in
theorem r_do5 (x y : WI) (hx : x.fit) (hy : y.fit) (w : World) :
    Calls Tryz.prog 129 #[.int .i64 5, WV x, WV y] w fun r w' => r = .returned (.tuple #[WV (remW x y).1, iV (remW x y).2]) ∧ Keep (fun _ => False) w w' := by
  have HFX := hid hx; have HFY := hid hy
  clear hx hy
  obtain ⟨w1, hw1, hb1, hb2, hb3, hs1, hk1⟩ := box3 w (WC x) (WC y) #[.bool false, .int .u64 0, .int .u64 0] 30 30 30
  have HX1 := hid hb1; have HY1 := hid hb2; have HR1 := hid hb3; have HK1 := hid hk1
  clear hb1 hb2 hb3 hs1 hk1
  have hz := zero_num
  have hsz := nC_size false (fun _ => 0)
  go_enter Tryz.func129, Tryz.ntmps129
  go_upto_region 1 with fail
  rw [← hw1]
  clear hw1
  generalize hsb : w.heap.size = sb at *
  have HSB := hid hsb
  clear hsb
  have s0 : w1.cell? ⟨sb, 0, none⟩ = some (.bool x.neg) := cell_of HX1.out (by rfl)
  have s1 : w1.cell? ⟨sb, 1, none⟩ = some (.int .u64 (x.hi : Int)) := cell_of HX1.out (by rfl)
  have s2 : w1.cell? ⟨sb, 2, none⟩ = some (.int .u64 (x.lo : Int)) := cell_of HX1.out (by rfl)
  have t0 : w1.cell? ⟨sb + 1, 0, none⟩ = some (.bool y.neg) := cell_of HY1.out (by rfl)
  have t1 : w1.cell? ⟨sb + 1, 1, none⟩ = some (.int .u64 (y.hi : Int)) := cell_of HY1.out (by rfl)
  have t2 : w1.cell? ⟨sb + 1, 2, none⟩ = some (.int .u64 (y.lo : Int)) := cell_of HY1.out (by rfl)
  go_wp2_with fail
  refine (r_good x HFX.out w1).mono ?_
  rintro r w2 ⟨rfl, hk⟩
  have HX2 := hid (hk.get HX1.out id); have HY2 := hid (hk.get HY1.out id); have HR2 := hid (hk.get HR1.out id); have HK2 := hid (HK1.out.trans hk)
  clear hk
  clear s0 s1 s2 t0 t1 t2
  have s0 : w2.cell? ⟨sb, 0, none⟩ = some (.bool x.neg) := cell_of HX2.out (by rfl)
  have s1 : w2.cell? ⟨sb, 1, none⟩ = some (.int .u64 (x.hi : Int)) := cell_of HX2.out (by rfl)
  have s2 : w2.cell? ⟨sb, 2, none⟩ = some (.int .u64 (x.lo : Int)) := cell_of HX2.out (by rfl)
  have t0 : w2.cell? ⟨sb + 1, 0, none⟩ = some (.bool y.neg) := cell_of HY2.out (by rfl)
  have t1 : w2.cell? ⟨sb + 1, 1, none⟩ = some (.int .u64 (y.hi : Int)) := cell_of HY2.out (by rfl)
  have t2 : w2.cell? ⟨sb + 1, 2, none⟩ = some (.int .u64 (y.lo : Int)) := cell_of HY2.out (by rfl)
  cases hfx : x.form
  · have G := hid ((bad1 (y := y) (.inl hfx)).2.2.2.2)
    clear hfx
    have d0 := cell_of HR2.out (i := 0) (by rfl)
    have d1 := cell_of HR2.out (i := 1) (by rfl)
    have d2 := cell_of HR2.out (i := 2) (by rfl)
    have e0 := free_of HR2.out 0
    have e1 := free_of HR2.out 1
    have e2 := free_of HR2.out 2
    have HKF := hid (((HK2.out.setCell_new (p := ⟨sb + 1 + 1, 0, none⟩) (by have := HSB.out; simp only; omega) (.bool false)).setCell_new (p := ⟨sb + 1 + 1, 1, none⟩) (by have := HSB.out; simp only; omega) (.int .u64 0)).setCell_new (p := ⟨sb + 1 + 1, 2, none⟩) (by have := HSB.out; simp only; omega) (.int .u64 0))
    go_wp2
    (try simp only [Exit.inBlock, Exit.then])
    refine bodyPost_ret (results_ct rfl _ rfl (load_intN (cells3 (.bool false) (.int .u64 0) (.int .u64 0) HR2.out))) rfl ?_
    exact ⟨by rw [G.out]; rfl, HKF.out⟩
  have HPX := hid hfx
  clear hfx
  go_wp2_with fail
  refine (r_good y HFY.out w2).mono ?_
  rintro r w3 ⟨rfl, hk⟩
  have HX3 := hid (hk.get HX2.out id); have HY3 := hid (hk.get HY2.out id); have HR3 := hid (hk.get HR2.out id); have HK3 := hid (HK2.out.trans hk)
  clear hk
  clear s0 s1 s2 t0 t1 t2
  have s0 : w3.cell? ⟨sb, 0, none⟩ = some (.bool x.neg) := cell_of HX3.out (by rfl)
  have s1 : w3.cell? ⟨sb, 1, none⟩ = some (.int .u64 (x.hi : Int)) := cell_of HX3.out (by rfl)
  have s2 : w3.cell? ⟨sb, 2, none⟩ = some (.int .u64 (x.lo : Int)) := cell_of HX3.out (by rfl)
  have t0 : w3.cell? ⟨sb + 1, 0, none⟩ = some (.bool y.neg) := cell_of HY3.out (by rfl)
  have t1 : w3.cell? ⟨sb + 1, 1, none⟩ = some (.int .u64 (y.hi : Int)) := cell_of HY3.out (by rfl)
  have t2 : w3.cell? ⟨sb + 1, 2, none⟩ = some (.int .u64 (y.lo : Int)) := cell_of HY3.out (by rfl)
  cases hfy : y.form
  · have G := hid ((bad1 (x := x) (.inr hfy)).2.2.2.2)
    clear hfy
    have d0 := cell_of HR3.out (i := 0) (by rfl)
    have d1 := cell_of HR3.out (i := 1) (by rfl)
    have d2 := cell_of HR3.out (i := 2) (by rfl)
    have e0 := free_of HR3.out 0
    have e1 := free_of HR3.out 1
    have e2 := free_of HR3.out 2
    have HKF := hid (((HK3.out.setCell_new (p := ⟨sb + 1 + 1, 0, none⟩) (by have := HSB.out; simp only; omega) (.bool false)).setCell_new (p := ⟨sb + 1 + 1, 1, none⟩) (by have := HSB.out; simp only; omega) (.int .u64 0)).setCell_new (p := ⟨sb + 1 + 1, 2, none⟩) (by have := HSB.out; simp only; omega) (.int .u64 0))
    go_wp2
    (try simp only [Exit.inBlock, Exit.then])
    refine bodyPost_ret (results_ct rfl _ rfl (load_intN (cells3 (.bool false) (.int .u64 0) (.int .u64 0) HR3.out))) rfl ?_
    exact ⟨by rw [G.out]; rfl, HKF.out⟩
  have HPY := hid hfy
  clear hfy
  by_cases hm0 : y.mag = 0
  · have hh := mag0.1 hm0
    have z1 : ((y.hi : Int) == 0) = true := by rw [hh.1]; rfl
    have z1n : (y.hi == 0) = true := by rw [hh.1]; rfl
    have z2 : ((y.lo : Int) == 0) = true := by rw [hh.2]; rfl
    have z2n : (y.lo == 0) = true := by rw [hh.2]; rfl
    have G := hid ((bad2 (x := x) hm0).2)
    clear hm0 hh
    have d0 := cell_of HR3.out (i := 0) (by rfl)
    have d1 := cell_of HR3.out (i := 1) (by rfl)
    have d2 := cell_of HR3.out (i := 2) (by rfl)
    have e0 := free_of HR3.out 0
    have e1 := free_of HR3.out 1
    have e2 := free_of HR3.out 2
    have HKF := hid (((HK3.out.setCell_new (p := ⟨sb + 1 + 1, 0, none⟩) (by have := HSB.out; simp only; omega) (.bool false)).setCell_new (p := ⟨sb + 1 + 1, 1, none⟩) (by have := HSB.out; simp only; omega) (.int .u64 0)).setCell_new (p := ⟨sb + 1 + 1, 2, none⟩) (by have := HSB.out; simp only; omega) (.int .u64 0))
    go_wp2
    (try simp only [Exit.inBlock, Exit.then])
    refine bodyPost_ret (results_ct rfl _ rfl (load_intN (cells3 (.bool false) (.int .u64 0) (.int .u64 0) HR3.out))) rfl ?_
    exact ⟨by rw [G.out]; rfl, HKF.out⟩
  have HM0 := hid hm0
  have hcase : y.hi ≠ 0 ∨ (y.hi = 0 ∧ y.lo ≠ 0) := by have := mt mag0.2 hm0; omega
  clear hm0
  rcases hcase with hcz | hcz
  all_goals
    first
      | (have z1 : ((y.hi : Int) == 0) = true := by rw [hcz.1]; rfl
         have z1n : (y.hi == 0) = true := by rw [hcz.1]; rfl
         have z2 : ((y.lo : Int) == 0) = false := by rw [beq_eq_false_iff_ne]; have := hcz.2; omega
         have z2n : (y.lo == 0) = false := by rw [beq_eq_false_iff_ne]; exact hcz.2)
      | (have z1 : ((y.hi : Int) == 0) = false := by rw [beq_eq_false_iff_ne]; omega
         have z1n : (y.hi == 0) = false := by rw [beq_eq_false_iff_ne]; exact hcz)
    clear hcz
    go_wp2_with fail
    refine (r_from x HFX.out w3).mono ?_
    rintro r w4 ⟨rfl, hk⟩
    have HX4 := hid (hk.get HX3.out id); have HY4 := hid (hk.get HY3.out id); have HR4 := hid (hk.get HR3.out id); have HK4 := hid (HK3.out.trans hk)
    clear hk
    clear z1 z1n
    (try clear z2 z2n)
    clear s0 s1 s2 t0 t1 t2
    have nA := heap_alloc_new w4 (.cells (nC false (fun _ => 0)) 183)
    have kA := (Keep.refl (fun _ => False) w4).alloc (.cells (nC false (fun _ => 0)) 183)
    obtain ⟨w5, hst, hN, hks⟩ := num_store nA x.neg (dgN x.mag)
    have hkk : Keep (fun _ => False) w4 w5 := kA.trans' hks (fun i hi e => by omega)
    have HA5 := hid hN
    have HX5 := hid (hkk.get HX4.out id); have HY5 := hid (hkk.get HY4.out id); have HR5 := hid (hkk.get HR4.out id); have HK5 := hid (HK4.out.trans hkk)
    have HLA : Hid (sb + 1 + 1 < w4.heap.size) := hid (lt_of_heap HR4.out)
    clear nA kA hN hks hkk
    have hszn := nC_size x.neg (dgN x.mag)
    go_upto_region 4 with fail
    clear hszn
    clear hst
    (try clear s0 s1 s2 t0 t1 t2)
    generalize w4.heap.size = aq at *
    have s0 : w5.cell? ⟨sb, 0, none⟩ = some (.bool x.neg) := cell_of HX5.out (by rfl)
    have s1 : w5.cell? ⟨sb, 1, none⟩ = some (.int .u64 (x.hi : Int)) := cell_of HX5.out (by rfl)
    have s2 : w5.cell? ⟨sb, 2, none⟩ = some (.int .u64 (x.lo : Int)) := cell_of HX5.out (by rfl)
    have t0 : w5.cell? ⟨sb + 1, 0, none⟩ = some (.bool y.neg) := cell_of HY5.out (by rfl)
    have t1 : w5.cell? ⟨sb + 1, 1, none⟩ = some (.int .u64 (y.hi : Int)) := cell_of HY5.out (by rfl)
    have t2 : w5.cell? ⟨sb + 1, 2, none⟩ = some (.int .u64 (y.lo : Int)) := cell_of HY5.out (by rfl)
    go_wp2_with fail
    refine (r_from y HFY.out w5).mono ?_
    rintro r w6 ⟨rfl, hk⟩
    have HX6 := hid (hk.get HX5.out id); have HY6 := hid (hk.get HY5.out id); have HR6 := hid (hk.get HR5.out id); have HK6 := hid (HK5.out.trans hk)
    have HA6 := hid (HA5.out.keep hk id)
    clear hk
    clear s0 s1 s2 t0 t1 t2
    have s0 : w6.cell? ⟨sb, 0, none⟩ = some (.bool x.neg) := cell_of HX6.out (by rfl)
    have s1 : w6.cell? ⟨sb, 1, none⟩ = some (.int .u64 (x.hi : Int)) := cell_of HX6.out (by rfl)
    have s2 : w6.cell? ⟨sb, 2, none⟩ = some (.int .u64 (x.lo : Int)) := cell_of HX6.out (by rfl)
    have t0 : w6.cell? ⟨sb + 1, 0, none⟩ = some (.bool y.neg) := cell_of HY6.out (by rfl)
    have t1 : w6.cell? ⟨sb + 1, 1, none⟩ = some (.int .u64 (y.hi : Int)) := cell_of HY6.out (by rfl)
    have t2 : w6.cell? ⟨sb + 1, 2, none⟩ = some (.int .u64 (y.lo : Int)) := cell_of HY6.out (by rfl)
    have nA := heap_alloc_new w6 (.cells (nC false (fun _ => 0)) 183)
    have kA := (Keep.refl (fun _ => False) w6).alloc (.cells (nC false (fun _ => 0)) 183)
    obtain ⟨w7, hst, hN, hks⟩ := num_store nA y.neg (dgN y.mag)
    have hkk : Keep (fun _ => False) w6 w7 := kA.trans' hks (fun i hi e => by omega)
    have HB7 := hid hN
    have HX7 := hid (hkk.get HX6.out id); have HY7 := hid (hkk.get HY6.out id); have HR7 := hid (hkk.get HR6.out id); have HK7 := hid (HK6.out.trans hkk)
    have HA7 := hid (HA6.out.keep hkk id)
    have HLB : Hid (sb + 1 + 1 < w6.heap.size) := hid (lt_of_heap HR6.out)
    have HQBHA : Hid (aq < w6.heap.size) := hid (lt_of_heap HA6.out)
    clear nA kA hN hks hkk
    have hszn := nC_size y.neg (dgN y.mag)
    go_upto_region 5 with fail
    clear hszn
    clear hst
    (try clear s0 s1 s2 t0 t1 t2)
    generalize w6.heap.size = bq at *
    have s0 : w7.cell? ⟨sb, 0, none⟩ = some (.bool x.neg) := cell_of HX7.out (by rfl)
    have s1 : w7.cell? ⟨sb, 1, none⟩ = some (.int .u64 (x.hi : Int)) := cell_of HX7.out (by rfl)
    have s2 : w7.cell? ⟨sb, 2, none⟩ = some (.int .u64 (x.lo : Int)) := cell_of HX7.out (by rfl)
    have t0 : w7.cell? ⟨sb + 1, 0, none⟩ = some (.bool y.neg) := cell_of HY7.out (by rfl)
    have t1 : w7.cell? ⟨sb + 1, 1, none⟩ = some (.int .u64 (y.hi : Int)) := cell_of HY7.out (by rfl)
    have t2 : w7.cell? ⟨sb + 1, 2, none⟩ = some (.int .u64 (y.lo : Int)) := cell_of HY7.out (by rfl)
    have nA := heap_alloc_new w7 (.cells (nC false (fun _ => 0)) 183)
    have kA := (Keep.refl (fun _ => False) w7).alloc (.cells (nC false (fun _ => 0)) 183)
    obtain ⟨w8, hst, hN, hks⟩ := num_store nA false (fun _ => 0)
    have hkk : Keep (fun _ => False) w7 w8 := kA.trans' hks (fun i hi e => by omega)
    have HC8 := hid hN
    have HX8 := hid (hkk.get HX7.out id); have HY8 := hid (hkk.get HY7.out id); have HR8 := hid (hkk.get HR7.out id); have HK8 := hid (HK7.out.trans hkk)
    have HA8 := hid (HA7.out.keep hkk id)
    have HB8 := hid (HB7.out.keep hkk id)
    have HLC : Hid (sb + 1 + 1 < w7.heap.size) := hid (lt_of_heap HR7.out)
    have HQCHA : Hid (aq < w7.heap.size) := hid (lt_of_heap HA7.out)
    have HQCHB : Hid (bq < w7.heap.size) := hid (lt_of_heap HB7.out)
    clear nA kA hN hks hkk
    have hszn := nC_size false (fun _ => 0)
    go_upto_region 6 with fail
    clear hszn
    clear hst
    (try clear s0 s1 s2 t0 t1 t2)
    generalize w7.heap.size = cq at *
    clear hz hsz
    have HNE : Hid (sb + 1 + 1 < aq ∧ aq < bq ∧ bq < cq) := hid ⟨by have := HLA.out; omega, by have := HQBHA.out; omega, by have := HQCHB.out; omega⟩
    clear HLA HLB HLC HQBHA HQCHA HQCHB
    have HMC := hid (r_div x.neg y.neg x.mag y.mag (small40 HFX.out) (Nat.pos_of_ne_zero HM0.out) (small39 HFY.out) w8)
    have HQL := hid (Nat.lt_of_le_of_lt (Nat.div_le_self x.mag y.mag) (small40 HFX.out))
    have HRL := hid (Nat.lt_of_le_of_lt (Nat.mod_le x.mag y.mag) (small40 HFX.out))
    have HQF := hid (quo_fit HPX.out HPY.out HFX.out HM0.out)
    have HRF := hid (rem_fit HPX.out HPY.out HFX.out HM0.out)
    obtain ⟨QQ, hQQ⟩ : ∃ P, x.mag / y.mag = P := ⟨_, rfl⟩
    obtain ⟨RR, hRR⟩ : ∃ P, x.mag % y.mag = P := ⟨_, rfl⟩
    rw [hQQ] at HQL HQF
    rw [hRR] at HRL HRF
    rw [hQQ, hRR] at HMC
    clear hQQ hRR
    go_wp2_with (first
      | (refine wpList_load_row rfl 183 _ rfl _ rfl _ _ _ _ HA8.out Tryz.underlying183 rfl (by rw [info_num, nC_size]) ?_)
      | (refine wpList_load_row rfl 183 _ rfl _ rfl _ _ _ _ HB8.out Tryz.underlying183 rfl (by rw [info_num, nC_size]) ?_)
      | fail)
    refine (HMC.out).mono ?_
    rintro r w9 ⟨rfl, hk⟩
    have HX9 := hid (hk.get HX8.out id); have HY9 := hid (hk.get HY8.out id); have HR9 := hid (hk.get HR8.out id); have HK9 := hid (HK8.out.trans hk)
    have HC9 := hid (HC8.out.keep hk id)
    clear hk
    have hz := zero_num
    have hsz := nC_size false (fun _ => 0)
    have nP := heap_alloc_new w9 (.cells (nC false (fun _ => 0)) 183)
    have kP := (Keep.refl (fun _ => False) w9).alloc (.cells (nC false (fun _ => 0)) 183)
    obtain ⟨wp, hwp⟩ : ∃ wp, w9.alloc (.cells (nC false (fun _ => 0)) 183) = wp := ⟨_, rfl⟩
    have sP : wp.heap.size = w9.heap.size + 1 := by rw [← hwp]; simp
    have nQ := heap_alloc_new wp (.cells (nC false (fun _ => 0)) 183)
    have kQ := (Keep.refl (fun _ => False) wp).alloc (.cells (nC false (fun _ => 0)) 183)
    rw [sP] at nQ
    rw [hwp] at nP kP
    obtain ⟨wq, hst1, hN1, hks1⟩ := num_store (b := false) (D := fun _ => 0) (kQ.get nP id) false (dgN QQ)
    obtain ⟨w10, hst2, hN2, hks2⟩ := num_store (b := false) (D := fun _ => 0) (hks1.get nQ (by omega)) false (dgN RR)
    have lC := lt_of_heap HC9.out
    have hkk : Keep (fun _ => False) w9 w10 := ((kP.trans kQ).trans' hks1 (fun i hi e => by omega)).trans' hks2 (fun i hi e => by omega)
    have HP10 : Hid (NI false (dgN QQ) w10 w9.heap.size) := hid (hks2.get hN1 (by omega))
    have HQ10 : Hid (NI false (dgN RR) w10 (w9.heap.size + 1)) := hid hN2
    have HX10 := hid (hkk.get HX9.out id); have HY10 := hid (hkk.get HY9.out id); have HR10 := hid (hkk.get HR9.out id); have HK10 := hid (HK9.out.trans hkk); have HC10 := hid (HC9.out.keep hkk id)
    have HPQ : Hid (cq < w9.heap.size) := hid lC
    rw [← hwp] at hst1
    clear nP kP sP nQ kQ hN1 hks1 hN2 hks2 lC hkk hwp
    go_upto_region 8 with fail
    clear hst1 hst2 hz hsz
    generalize w9.heap.size = pq at *
    obtain ⟨w11, hst, hN, hks⟩ := num_store HC10.out false (dgN QQ)
    have HC11 := hid hN
    have HX11 := hid (hks.get HX10.out (by have := HNE.out; omega)); have HY11 := hid (hks.get HY10.out (by have := HNE.out; omega)); have HR11 := hid (hks.get HR10.out (by have := HNE.out; omega)); have HK11 := hid (HK10.out.trans' hks (fun i hi e => by have := HNE.out; have := HSB.out; omega))
    have HP11 := hid (HP10.out.keep hks (by have := HPQ.out; omega))
    have HQ11 := hid (HQ10.out.keep hks (by have := HPQ.out; omega))
    clear hN hks
    go_upto_region 9 with (refine wpList_load_row rfl 183 _ rfl _ rfl _ _ _ _ HP10.out Tryz.underlying183 rfl (by rw [info_num, nC_size]) ?_)
    clear hst
    have s0 : w11.cell? ⟨sb, 0, none⟩ = some (.bool x.neg) := cell_of HX11.out (by rfl)
    have s1 : w11.cell? ⟨sb, 1, none⟩ = some (.int .u64 (x.hi : Int)) := cell_of HX11.out (by rfl)
    have s2 : w11.cell? ⟨sb, 2, none⟩ = some (.int .u64 (x.lo : Int)) := cell_of HX11.out (by rfl)
    have t0 : w11.cell? ⟨sb + 1, 0, none⟩ = some (.bool y.neg) := cell_of HY11.out (by rfl)
    have t1 : w11.cell? ⟨sb + 1, 1, none⟩ = some (.int .u64 (y.hi : Int)) := cell_of HY11.out (by rfl)
    have t2 : w11.cell? ⟨sb + 1, 2, none⟩ = some (.int .u64 (y.lo : Int)) := cell_of HY11.out (by rfl)
    have c9 := HC11.out.neg
    have f9 := HC11.out.free 0
    have HC12 := hid (HC11.out.sign (!(x.neg == y.neg)))
    have hks := (Keep.refl (fun q => q = cq) w11).setCell (p := ⟨cq, 0, none⟩) rfl (.bool (!(x.neg == y.neg)))
    have HX12 := hid (hks.get HX11.out (by have := HNE.out; omega)); have HY12 := hid (hks.get HY11.out (by have := HNE.out; omega)); have HR12 := hid (hks.get HR11.out (by have := HNE.out; omega)); have HK12 := hid (HK11.out.trans' hks (fun i hi e => by have := HNE.out; have := HSB.out; omega))
    have HQ12 := hid (HQ11.out.keep hks (by have := HPQ.out; omega))
    clear hks
    go_upto_region 10 with fail
    clear c9 f9
    clear s0 s1 s2 t0 t1 t2
    generalize w11.setCell ⟨cq, 0, none⟩ (.bool (!(x.neg == y.neg))) = w12 at *
    obtain ⟨w13, hst, hN, hks⟩ := num_store HC12.out false (dgN RR)
    have HC13 := hid hN
    have HX13 := hid (hks.get HX12.out (by have := HNE.out; omega)); have HY13 := hid (hks.get HY12.out (by have := HNE.out; omega)); have HR13 := hid (hks.get HR12.out (by have := HNE.out; omega)); have HK13 := hid (HK12.out.trans' hks (fun i hi e => by have := HNE.out; have := HSB.out; omega))
    clear hN hks
    go_upto_region 12 with (refine wpList_load_row rfl 183 _ rfl _ rfl _ _ _ _ HQ12.out Tryz.underlying183 rfl (by rw [info_num, nC_size]) ?_)
    clear hst
    have s0 : w13.cell? ⟨sb, 0, none⟩ = some (.bool x.neg) := cell_of HX13.out (by rfl)
    have s1 : w13.cell? ⟨sb, 1, none⟩ = some (.int .u64 (x.hi : Int)) := cell_of HX13.out (by rfl)
    have s2 : w13.cell? ⟨sb, 2, none⟩ = some (.int .u64 (x.lo : Int)) := cell_of HX13.out (by rfl)
    have c9 := HC13.out.neg
    have f9 := HC13.out.free 0
    have HC14 := hid (HC13.out.sign x.neg)
    have hks := (Keep.refl (fun q => q = cq) w13).setCell (p := ⟨cq, 0, none⟩) rfl (.bool x.neg)
    have HX14 := hid (hks.get HX13.out (by have := HNE.out; omega)); have HY14 := hid (hks.get HY13.out (by have := HNE.out; omega)); have HR14 := hid (hks.get HR13.out (by have := HNE.out; omega)); have HK14 := hid (HK13.out.trans' hks (fun i hi e => by have := HNE.out; have := HSB.out; omega))
    clear hks
    go_upto_region 20 with fail
    clear c9 f9 s0 s1 s2
    generalize w13.setCell ⟨cq, 0, none⟩ (.bool x.neg) = w14 at *
    have HT := hid (r_to x.neg (RR) (HRL.out) w14)
    obtain ⟨z, is, hto⟩ : ∃ z is, toW x.neg (RR) = (z, is) := ⟨_, _, rfl⟩
    have HFI := hid ((HRF.out).trans (fit_to hto))
    rw [hto] at HT
    clear hto
    go_wp2_with (first
      | (refine wpList_load_row rfl 183 _ rfl _ rfl _ _ _ _ HC14.out Tryz.underlying183 rfl (by rw [info_num, nC_size]) ?_)
      | fail)
    refine (HT.out).mono ?_
    rintro r w15 ⟨rfl, hk⟩
    have HX15 := hid (hk.get HX14.out id); have HY15 := hid (hk.get HY14.out id); have HR15 := hid (hk.get HR14.out id); have HK15 := hid (HK14.out.trans hk)
    clear hk
    clear HT
    obtain ⟨w16, hw9, hb9, hs9, hk9⟩ := box1 w15 (WC z) 30
    have HZ16 := hid hb9; have HR16 := hid (hk9.get HR15.out id); have HK16 := hid (HK15.out.trans hk9)
    clear hb9 hs9 hk9
    go_upto_region 21 with fail
    rw [← hw9]
    clear hw9
    generalize w15.heap.size = zq at *
    cases is
    · have HFE := hid (HFI.out.trans (if_neg (by simp)))
      have G := hid (HFE.out)
      have d0 := cell_of HR16.out (i := 0) (by rfl)
      have d1 := cell_of HR16.out (i := 1) (by rfl)
      have d2 := cell_of HR16.out (i := 2) (by rfl)
      have e0 := free_of HR16.out 0
      have e1 := free_of HR16.out 1
      have e2 := free_of HR16.out 2
      have HKF := hid (((HK16.out.setCell_new (p := ⟨sb + 1 + 1, 0, none⟩) (by have := HSB.out; simp only; omega) (.bool false)).setCell_new (p := ⟨sb + 1 + 1, 1, none⟩) (by have := HSB.out; simp only; omega) (.int .u64 0)).setCell_new (p := ⟨sb + 1 + 1, 2, none⟩) (by have := HSB.out; simp only; omega) (.int .u64 0))
      go_wp2
      (try simp only [Exit.inBlock, Exit.then])
      refine bodyPost_ret (results_ct rfl _ rfl (load_intN (cells3 (.bool false) (.int .u64 0) (.int .u64 0) HR16.out))) rfl ?_
      exact ⟨by rw [G.out]; rfl, HKF.out⟩
    · have HFE := hid (HFI.out.trans (if_pos rfl))
      have d0 := cell_of HR16.out (i := 0) (by rfl)
      have d1 := cell_of HR16.out (i := 1) (by rfl)
      have d2 := cell_of HR16.out (i := 2) (by rfl)
      have e0 := free_of HR16.out 0
      have e1 := free_of HR16.out 1
      have e2 := free_of HR16.out 2
      have z0 : w16.cell? ⟨zq, 0, none⟩ = some (.bool z.neg) := cell_of HZ16.out (by rfl)
      have z1 : w16.cell? ⟨zq, 1, none⟩ = some (.int .u64 (z.hi : Int)) := cell_of HZ16.out (by rfl)
      have z2 : w16.cell? ⟨zq, 2, none⟩ = some (.int .u64 (z.lo : Int)) := cell_of HZ16.out (by rfl)
      have HKF := hid (((HK16.out.setCell_new (p := ⟨sb + 1 + 1, 0, none⟩) (by have := HSB.out; simp only; omega) (.bool z.neg)).setCell_new (p := ⟨sb + 1 + 1, 1, none⟩) (by have := HSB.out; simp only; omega) (.int .u64 (z.hi : Int))).setCell_new (p := ⟨sb + 1 + 1, 2, none⟩) (by have := HSB.out; simp only; omega) (.int .u64 (z.lo : Int)))
      go_wp2
      (try simp only [Exit.inBlock, Exit.then])
      refine bodyPost_ret (results_ct rfl _ rfl (load_intN (cells3 (.bool z.neg) (.int .u64 (z.hi : Int)) (.int .u64 (z.lo : Int)) HR16.out))) rfl ?_
      exact ⟨by rw [HFE.out]; rfl, HKF.out⟩
end Go.Proofs.YtddleckbbinllaaGreatDoor
