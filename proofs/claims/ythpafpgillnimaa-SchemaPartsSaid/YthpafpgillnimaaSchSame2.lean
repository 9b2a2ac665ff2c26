/- What is proved: whether schemas are the same. -/
import Derived.Test.YthpafpgillnimaaSchSame
import Derived.Test.YthpafpgillnimaaSchCheck
namespace Go.Proofs.Ythpafpgillnimaa
open Go.RowKit Go.Proofs.Heap Go.Proofs.Sch

set_option maxRecDepth 20000 in
set_option maxHeartbeats 2000000 in
theorem eqfunc_comps (A B : List Cmp) (pa pb : Option Addr) (ca cb : Nat) (w : World) (hl65 : Small A) (hA : CP w w.heap.size pa A) (hB : CP w w.heap.size pb B) :
    Calls Try.prog 41 #[.slice pa A.length ca, .slice pb B.length cb, .func (.func 21) #[] #[]] w fun r w' => r = .returned (.bool (decide (A = B))) ∧ Keep (fun _ => False) w w' := by
  have HA := hid hA; have HB := hid hB; have HL := hid hl65.2
  have hl1 := hl65.1
  clear hA hB hl65
  go_enter Try.func41, Try.ntmps41
  by_cases hl : A.length = B.length
  rotate_left
  · have g1 : ((A.length : Int) == (B.length : Int)) = false := beq_eq_false_iff_ne.2 (by omega)
    have g2 : (A.length == B.length) = false := beq_eq_false_iff_ne.2 hl
    have g3 : ((A.length : Int) != (B.length : Int)) = true := by rw [bne, g1]; rfl
    have g4 : (A.length != B.length) = true := by rw [bne, g2]; rfl
    have G3 : Hid (decide (A = B) = false) := hid (decide_eq_false (fun h => hl (by rw [h])))
    go_wp2
    go_ret
    exact ⟨by rw [G3.out]; rfl, Keep.refl _ _⟩
  generalize hn : B.length = n at *
  rw [hl]
  have hnA : A.length = n := hl
  have hn65 : n ≤ 65536 := by omega
  clear hl
  go_wp2_with fail
  go_loopw [7, 8, 9, 17] (fun _ _ _ i wr => ∃ k : Nat, k ≤ n ∧ i = iV k ∧ Keep (fun _ => False) w wr ∧ A.take k = B.take k) (fun _ _ _ i _ => n + 1 - (intOf i).toNat)
  case atStart => exact ⟨0, by omega, rfl, Keep.refl _ _, rfl⟩
  case round =>
    obtain ⟨k, hk, rfl, hkeep, htk⟩ := hrel
    have HK := hid hkeep; have HT := hid htk
    clear hkeep htk
    by_cases hlt : k < n
    · obtain ⟨x, hx⟩ : ∃ f, A[k]? = some f := ⟨A[k], by simp [hnA, hlt]⟩
      obtain ⟨y, hy⟩ : ∃ f, B[k]? = some f := ⟨B[k], by simp [hn, hlt]⟩
      have hlow : Low w.heap.size w wr := Low.keep0 HK.out
      have hxl := HL.out x (List.mem_of_getElem? hx)
      obtain ⟨ba, oa, qa, ka, rfl, hba, a0, a1, a2, _, fa⟩ := CP.at (CP.low HA.out hlow) hx
      obtain ⟨bb, ob, qb, kb, rfl, hbb, b0, b1, b2, _, fb⟩ := CP.at (CP.low HB.out hlow) hy
      have hin : (0 : Int) ≤ (k : Int) ∧ (k : Int) < (n : Int) := ⟨by omega, by omega⟩
      have HNE : Hid (x ≠ y → decide (A = B) = false) := hid (fun h => decide_eq_false (fun e => h (by rw [e, hy] at hx; injection hx with hx; exact hx.symm)))
      have HEQ : Hid (x = y → A.take (k + 1) = B.take (k + 1)) := hid (take_eq HT.out hx hy)
      have hk1 := (Keep.refl (fun _ => False) wr).alloc (.cells #[.int .i64 x.id, .string x.name, .slice qa x.fs.length ka] 34)
      have hk2 := hk1.alloc (.cells #[.int .i64 y.id, .string y.name, .slice qb y.fs.length kb] 34)
      have hlow1 := Low.keep0 hk1
      have b0' := (hlow1.cell (o := ob + k * 3) (Nat.lt_of_lt_of_le hbb HK.out.size)).trans b0
      have b1' := (hlow1.cell (o := ob + k * 3 + 1) (Nat.lt_of_lt_of_le hbb HK.out.size)).trans b1
      have b2' := (hlow1.cell (o := ob + k * 3 + 2) (Nat.lt_of_lt_of_le hbb HK.out.size)).trans b2
      have HK2 := hid (HK.out.trans hk2)
      have HFA := hid (FP.mono (FP.low (FP.mono fa HK.out.size) (Low.keep0 hk2)) hk2.size)
      have HFB := hid (FP.mono (FP.low (FP.mono fb HK.out.size) (Low.keep0 hk2)) hk2.size)
      clear hx hy hlow HT hnA hn hk1 hk2 hlow1 b0 b1 b2 fa fb
      go_wp2_with fail
      refine (same_comp x y qa qb ka kb _ hxl HFA.out HFB.out).mono ?_
      rintro r w1 ⟨rfl, hk1⟩
      have HK3 := hid (HK2.out.trans hk1)
      clear hk1
      by_cases e : x = y
      · have G3 := hid (HEQ.out e)
        rw [decide_eq_true e]
        clear HNE HEQ e
        go_wp2
        go_roundw
        case rel => exact ⟨k + 1, by omega, by go_num, HK3.out, G3.out⟩
        case measure => simp [intOf]; omega
      · have G3 := hid (HNE.out e)
        rw [decide_eq_false e]
        clear HNE HEQ e
        go_wp2
        go_ret
        exact ⟨by rw [G3.out]; rfl, HK3.out⟩
    · obtain rfl : k = n := by omega
      have G3 : Hid (decide (A = B) = true) := hid (decide_eq_true (by have h := HT.out; rwa [List.take_of_length_le (by omega), List.take_of_length_le (by omega)] at h))
      clear HT
      go_wp2
      go_ret
      exact ⟨by rw [G3.out]; rfl, HK.out⟩

set_option maxRecDepth 20000 in
set_option maxHeartbeats 2000000 in
theorem sch_same (v u : Int) (A B : List Cmp) (pa pb : Option Addr) (ca cb : Nat) (w : World) (hl : Small A) (hA : CP w w.heap.size pa A) (hB : CP w w.heap.size pb B) :
    Calls Try.prog 22 #[.agg #[.int .i64 v, .slice pa A.length ca], .agg #[.int .i64 u, .slice pb B.length cb]] w fun r w' => r = .returned (.bool (decide (v = u ∧ A = B))) ∧ Keep (fun _ => False) w w' := by
  have hk := ((Keep.refl (fun _ => False) w).alloc (.cells #[.int .i64 v, .slice pa A.length ca] 24)).alloc (.cells #[.int .i64 u, .slice pb B.length cb] 24)
  have HK := hid hk
  have HA := hid (CP.mono (CP.low hA (Low.keep0 hk)) hk.size); have HB := hid (CP.mono (CP.low hB (Low.keep0 hk)) hk.size)
  clear hk hA hB
  go_enter Try.func22, Try.ntmps22
  by_cases e1 : v = u
  rotate_left
  · have g1 : (v == u) = false := beq_eq_false_iff_ne.2 e1
    have G3 : Hid (decide (v = u ∧ A = B) = false) := hid (decide_eq_false (fun h => e1 h.1))
    go_wp2
    go_ret
    exact ⟨by rw [G3.out]; rfl, HK.out⟩
  subst e1
  go_wp2_with fail
  refine (eqfunc_comps A B pa pb ca cb _ hl HA.out HB.out).mono ?_
  rintro r w1 ⟨rfl, hk1⟩
  have HK1 := hid (HK.out.trans hk1)
  have HEQ : Hid (decide (v = v ∧ A = B) = decide (A = B)) := hid (by simp)
  clear hk1
  go_wp2
  go_ret
  exact ⟨by first | rfl | (rw [HEQ.out]; rfl), HK1.out⟩

set_option maxRecDepth 20000 in
set_option maxHeartbeats 2000000 in
theorem r_same (v u : Int) (A B : List Cmp) (pa pb : Option Addr) (ca cb : Nat) (w : World) (hl65 : Small A) (hA : CP w w.heap.size pa A) (hB : CP w w.heap.size pb B) :
    Calls Try.prog 23 #[.agg #[.int .i64 v, .slice pa A.length ca], .agg #[.int .i64 u, .slice pb B.length cb]] w fun r w' => r = .returned (.bool (decide (v = u ∧ A = B))) ∧ Keep (fun _ => False) w w' := by
  have hk := ((Keep.refl (fun _ => False) w).alloc (.cells #[.int .i64 v, .slice pa A.length ca] 24)).alloc (.cells #[.int .i64 u, .slice pb B.length cb] 24)
  have hb1 := ((Keep.refl (fun _ => False) (w.alloc (.cells #[.int .i64 v, .slice pa A.length ca] 24))).alloc (.cells #[.int .i64 u, .slice pb B.length cb] 24)).get (heap_alloc_new w (.cells #[.int .i64 v, .slice pa A.length ca] 24)) id
  have hb2 := heap_alloc_new (w.alloc (.cells #[.int .i64 v, .slice pa A.length ca] 24)) (.cells #[.int .i64 u, .slice pb B.length cb] 24)
  have hsz : (w.alloc (.cells #[.int .i64 v, .slice pa A.length ca] 24)).heap.size = w.heap.size + 1 := by simp
  rw [hsz] at hb2
  have HK := hid hk; have HB1 := hid hb1; have HB2 := hid hb2
  have HA := hid (CP.mono (CP.low hA (Low.keep0 hk)) hk.size); have HB := hid (CP.mono (CP.low hB (Low.keep0 hk)) hk.size)
  have HL := hid hl65.2
  have hl1 := hl65.1
  clear hk hA hB hb1 hb2 hl65 hsz
  go_enter Try.func23, Try.ntmps23
  go_upto_region 1 with fail
  generalize (w.alloc (.cells #[.int .i64 v, .slice pa A.length ca] 24)).alloc (.cells #[.int .i64 u, .slice pb B.length cb] 24) = w0 at *
  generalize w.heap.size = sb at *
  have d0 : w0.cell? ⟨sb, 0, none⟩ = some (.int .i64 v) := cell_of HB1.out (by rfl)
  have d1 : w0.cell? ⟨sb, 1, none⟩ = some (.slice pa A.length ca) := cell_of HB1.out (by rfl)
  have d2 : w0.cell? ⟨sb + 1, 0, none⟩ = some (.int .i64 u) := cell_of HB2.out (by rfl)
  have d3 : w0.cell? ⟨sb + 1, 1, none⟩ = some (.slice pb B.length cb) := cell_of HB2.out (by rfl)
  by_cases e1 : v = u
  rotate_left
  · have g1 : (v == u) = false := beq_eq_false_iff_ne.2 e1
    have g2 : (v != u) = true := by rw [bne, g1]; rfl
    have G3 : Hid (decide (v = u ∧ A = B) = false) := hid (decide_eq_false (fun h => e1 h.1))
    clear e1
    go_wp2
    go_ret
    exact ⟨by rw [G3.out]; rfl, HK.out⟩
  subst e1
  by_cases hl : A.length = B.length
  rotate_left
  · have g1 : ((A.length : Int) == (B.length : Int)) = false := beq_eq_false_iff_ne.2 (by omega)
    have g2 : (A.length == B.length) = false := beq_eq_false_iff_ne.2 hl
    have g3 : ((A.length : Int) != (B.length : Int)) = true := by rw [bne, g1]; rfl
    have g4 : (A.length != B.length) = true := by rw [bne, g2]; rfl
    have G3 : Hid (decide (A = B) = false) := hid (decide_eq_false (fun h => hl (by rw [h])))
    go_wp2
    go_ret
    exact ⟨by first | rfl | (rw [G3.out]; rfl), HK.out⟩
  generalize hn : B.length = n at *
  rw [hl] at d1 hl1
  rw [hl]
  have hnA : A.length = n := hl
  clear hl
  go_wp2_with fail
  clear d0 d1 d2 d3
  go_loopw [5] (fun i wr => ∃ k : Nat, k ≤ n ∧ i = iV k ∧ Keep (fun _ => False) w0 wr ∧ A.take k = B.take k) (fun i _ => n + 1 - (intOf i).toNat)
  case atStart => exact ⟨0, by omega, rfl, Keep.refl _ _, rfl⟩
  case round =>
    obtain ⟨k, hk, rfl, hkeep, htk⟩ := hrel
    have HK2 := hid hkeep; have HT := hid htk
    clear hkeep htk
    have hr1 := HK2.out.get HB1.out id
    rw [hnA] at hr1
    have d1 : wr.cell? ⟨sb, 1, none⟩ = some (.slice pa n ca) := cell_of hr1 (by rfl)
    clear hr1
    by_cases hlt : k < n
    · have hr1 := HK2.out.drew.get HB1.out id
      rw [hnA] at hr1
      have d2 : wr.drew.cell? ⟨sb, 1, none⟩ = some (.slice pa n ca) := cell_of hr1 (by rfl)
      have d3 : wr.drew.cell? ⟨sb + 1, 1, none⟩ = some (.slice pb n cb) := cell_of (HK2.out.drew.get HB2.out id) (by rfl)
      obtain ⟨x, hx⟩ : ∃ f, A[k]? = some f := ⟨A[k], by simp [hnA, hlt]⟩
      obtain ⟨y, hy⟩ : ∃ f, B[k]? = some f := ⟨B[k], by simp [hn, hlt]⟩
      have hlow : Low w0.heap.size w0 wr.drew := Low.keep0 HK2.out.drew
      have hxl := HL.out x (List.mem_of_getElem? hx)
      obtain ⟨ba, oa, qa, ka, rfl, hba, a0, a1, a2, _, fa⟩ := CP.at (CP.low HA.out hlow) hx
      obtain ⟨bb, ob, qb, kb, rfl, hbb, b0, b1, b2, _, fb⟩ := CP.at (CP.low HB.out hlow) hy
      have hin : (0 : Int) ≤ (k : Int) ∧ (k : Int) < (n : Int) := ⟨by omega, by omega⟩
      have HNE : Hid (x ≠ y → decide (A = B) = false) := hid (fun h => decide_eq_false (fun e => h (by rw [e, hy] at hx; injection hx with hx; exact hx.symm)))
      have HEQ : Hid (x = y → A.take (k + 1) = B.take (k + 1)) := hid (take_eq HT.out hx hy)
      have HFA := hid (FP.mono fa HK2.out.drew.size)
      have HFB := hid (FP.mono fb HK2.out.drew.size)
      clear hx hy hlow HT hnA hn fa fb hr1
      go_wp2_with fail
      clear d1
      refine Plan.wp_region_pl [(false, 0, []), (false, 1, []), (false, 2, []), (false, 3, []), (false, 4, []), (false, 5, []), (false, 6, []), (false, 7, []), (false, 8, []), (false, 9, []), (true, 10, []), (false, 11, [])] (by kernel_rfl) (by kernel_rfl) ?_
      repeat (refine Plan.pl_st rfl ?_; go_big_quiet_step (fail); refine wpQuiet_nil ?_)
      refine Plan.pl_ac rfl ?_
      go_wp2_with fail
      refine (r_comp x y qa qb ka kb _ hxl HFA.out HFB.out).mono ?_
      rintro r w1 ⟨rfl, hk1⟩
      have HK3 := hid (HK2.out.drew.trans hk1)
      have e0 := (Low.keep0 hk1).cell (o := oa + k * 3) (Nat.lt_of_lt_of_le hba HK2.out.drew.size) |>.trans a0
      have e1 := (Low.keep0 hk1).cell (o := oa + k * 3 + 1) (Nat.lt_of_lt_of_le hba HK2.out.drew.size) |>.trans a1
      have e2 := (Low.keep0 hk1).cell (o := oa + k * 3 + 2) (Nat.lt_of_lt_of_le hba HK2.out.drew.size) |>.trans a2
      have e3 := (Low.keep0 hk1).cell (o := ob + k * 3) (Nat.lt_of_lt_of_le hbb HK2.out.drew.size) |>.trans b0
      have e4 := (Low.keep0 hk1).cell (o := ob + k * 3 + 1) (Nat.lt_of_lt_of_le hbb HK2.out.drew.size) |>.trans b1
      have e5 := (Low.keep0 hk1).cell (o := ob + k * 3 + 2) (Nat.lt_of_lt_of_le hbb HK2.out.drew.size) |>.trans b2
      clear hk1 a0 a1 a2 b0 b1 b2
      go_wp2
      refine Plan.plQ_mk ?_ ?_
      · repeat (refine Plan.chk_st rfl ?_ ?_; focus (go_big_quiet_step (fail); exact wpQuiet_nil rfl))
        exact Plan.chk_end
      by_cases e : x = y
      · have G3 := hid (HEQ.out e)
        rw [decide_eq_true e]
        clear HNE HEQ e
        repeat (refine Plan.pl_st rfl ?_; go_big_quiet_step (fail); refine wpQuiet_nil ?_)
        refine Plan.pl_end ?_
        go_wp2
        go_roundw
        case rel => exact ⟨k + 1, by omega, by go_num, HK3.out, G3.out⟩
        case measure => simp [intOf]; omega
      · have G3 := hid (HNE.out e)
        rw [decide_eq_false e]
        clear HNE HEQ e
        repeat (refine Plan.pl_st rfl ?_; go_big_quiet_step (fail); refine wpQuiet_nil ?_)
        refine Plan.pl_end ?_
        go_wp2
        go_ret
        exact ⟨by first | rfl | (rw [G3.out]; rfl), HK.out.trans HK3.out⟩
    · obtain rfl : k = n := by omega
      have G3 : Hid (decide (A = B) = true) := hid (decide_eq_true (by have h := HT.out; rwa [List.take_of_length_le (by omega), List.take_of_length_le (by omega)] at h))
      clear HT
      go_wp2
      go_ret
      exact ⟨by first | rfl | (rw [G3.out]; rfl), HK.out.trans HK2.out⟩

end Go.Proofs.Ythpafpgillnimaa
