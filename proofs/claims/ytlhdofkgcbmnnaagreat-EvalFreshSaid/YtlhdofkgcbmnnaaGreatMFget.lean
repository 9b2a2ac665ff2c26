/- What is proved: what Get of the field's layer answers, of as many bytes as a kind has. -/
import Derived.Test.YtlhdofkgcbmnnaaGreatMFput
import Derived.Test.YtlhdofkgcbmnnaaGreatMWideU
namespace Go.Proofs.YtlhdofkgcbmnnaaGreat
open Go.RowKit Go.Proofs.Heap Go.Proofs.Sch Go.Proofs.Wide

/-- The number that bytes are, of a kind. -/
def getV (k : Int) (s : ByteArray) : WI := if signK k = true ∧ greatN k < firstN s (szN k) then ⟨true, 0, 256 ^ szN k - firstN s (szN k)⟩ else ⟨false, 0, firstN s (szN k)⟩
def getR (k : Int) (s : ByteArray) : Value := .tuple #[WV (if fitsB k (getV k s) = true then getV k s else ⟨false, 0, 0⟩), iV (if fitsB k (getV k s) = true then 0 else 4)]
theorem cmp_pos (a b : Nat) : cmpW ⟨false, 0, a⟩ ⟨false, 0, b⟩ = cmpI (a : Int) (b : Int) := by
  unfold cmpW
  rw [if_pos ⟨pos_form a, pos_form b⟩]
  simp [WI.val, WI.mag]

set_option maxRecDepth 20000 in
set_option maxHeartbeats 8000000 in
theorem f_get1 (k : Int) (hk : kindB k = true) (hz : szN k = 1) (s : ByteArray) (hs : s.size = 1) (w : World) : Calls Tryz.prog 81 #[.int .i64 k, .string s] w fun r w' => r = .returned (getR k s) ∧ Keep (fun _ => False) w w' := by
  have hkr : 1 ≤ k ∧ k ≤ 10 := of_decide_eq_true hk
  have HKR := hid hkr; have HKD := hid hk
  have HSZ : Hid (sizeK k = (1 : Int)) := hid (by rw [sz_cast, hz]; rfl)
  have HS := hid hs
  have HNP : Hid (firstN s 1 < 256) := hid (by
    have h1 := leN_lt (s.data.toList.take 1)
    have h2 : (s.data.toList.take 1).length ≤ 1 := by rw [List.length_take]; omega
    exact Nat.lt_of_lt_of_le h1 (pow_le h2))
  have HDN : Hid ((!false && decide ((s.extract 1 s.size).size = 0)) = true) := hid (by rw [ByteArray.size_extract, hs]; rfl)
  have HGV : Hid (getV k s = if signK k = true ∧ greatN k < firstN s 1 then ⟨true, 0, 256 - firstN s 1⟩ else ⟨false, 0, firstN s 1⟩) := hid (by unfold getV; rw [hz])
  obtain ⟨n, hn⟩ : ∃ n, firstN s 1 = n := ⟨_, rfl⟩
  rw [hn] at HNP HGV
  have HN := hid hn
  clear hk hkr hz hs hn
  obtain ⟨w0, hw0, hb0, hs0, hk0⟩ := box1 w Z3 86
  have HB0 := hid hb0; have HK0 := hid hk0; have HSW := hid hs0
  clear hb0 hk0 hs0
  go_enter Tryz.func81, Tryz.ntmps81
  go_upto_region 1 with fail
  rw [← hw0]
  clear hw0
  generalize hsb : w.heap.size = sb at *
  have HSB := hid hsb
  clear hsb
  go_wp2_with fail
  refine (is_kind k _).mono ?_
  rintro r w_ ⟨rfl, rfl⟩
  rw [HKD.out]
  go_wp2_with fail
  refine (size_of k _).mono ?_
  rintro r w1 ⟨rfl, hk1⟩
  rw [HSZ.out]
  have HK1 := hid (HK0.out.trans hk1); have HB1 := hid (hk1.get HB0.out id)
  have HS1 : Hid (sb < w1.heap.size) := hid (by have := hk1.size; have := HSW.out; omega)
  clear hk1
  go_wp2_with fail
  refine (rd_read s _).mono ?_
  rintro r w2 ⟨rfl, hr2, hk2⟩
  have HK2 := hid (HK1.out.trans hk2); have HB2 := hid (hk2.get HB1.out id); have HR2 := hid hr2
  have HS2 := hid (lt_of_heap hr2)
  clear hr2 hk2
  generalize w1.heap.size = rb at *
  go_wp2_with fail
  refine (rd_num_yes rb s 1 (by unfold WideOk; omega) _ (by have := HS.out; omega) (by have := HS.out; omega) HR2.out).mono ?_
  rintro r w3 ⟨rfl, hr3, hk3⟩
  rw [HN.out]
  have HK3 := hid (keep_new HK2.out hk3 (fun g hg => by have := HSB.out; have := HS1.out; omega)); have HB3 := hid (hk3.get HB2.out (by have := HS1.out; omega)); have HR3 := hid hr3
  have HS3 : Hid (rb < w3.heap.size) := hid (lt_of_heap hr3)
  clear hr3 hk3
  go_wp2_with fail
  refine (w_ofword n _).mono ?_
  rintro r w4 ⟨rfl, hk4⟩
  obtain ⟨w5, hw5, hb5, hs5, hk5⟩ := box1 w4 #[.bool false, .int .u64 0, .int .u64 (n : Int)] 86
  have HK5 := hid (((HK3.out.trans hk4).trans hk5).drew); have HB5 := hid ((hk4.trans hk5).drew.get HB3.out id); have HR5 := hid (HR3.out.keep0 (hk4.trans hk5).drew)
  have HX5 : Hid (w5.drew.heap[w4.heap.size]? = _) := hid hb5
  have HS4 : Hid (rb < w4.heap.size) := hid (by have := hk4.size; have := HS3.out; omega)
  clear hk4 hk5 hb5 hs5
  go_upto_region 6 with fail
  rw [← hw5]
  clear hw5
  generalize w4.heap.size = q at *
  have x0 : w5.drew.cell? ⟨q, 0, none⟩ = some (.bool false) := cell_of HX5.out (by rfl)
  have x1 : w5.drew.cell? ⟨q, 1, none⟩ = some (.int .u64 0) := cell_of HX5.out (by rfl)
  have x2 : w5.drew.cell? ⟨q, 2, none⟩ = some (.int .u64 (n : Int)) := cell_of HX5.out (by rfl)
  refine Plan.wp_region_pl [(false, 0, []), (true, 1, []), (false, 2, []), (false, 3, []), (false, 4, []), (false, 5, []), (true, 6, [4]), (true, 7, []), (false, 8, []), (false, 9, [])] (by as_aux_lemma => kernel_rfl) (by as_aux_lemma => kernel_rfl) ?_
  refine Plan.pl_st rfl ?_; go_big_quiet_step (fail); refine wpQuiet_nil ?_
  refine Plan.pl_ac rfl ?_
  go_wp2_with fail
  refine (kind_of k _).mono ?_
  rintro r w6 ⟨nm, rfl, hk6⟩
  have hfd := field_sign nm (sizeK k) (signK k) w6
  clear x0 x1 x2
  have HK6 := hid (HK5.out.trans hk6); have HB6 := hid (hk6.get HB5.out id); have HR6 := hid (HR5.out.keep0 hk6); have HX6 := hid (hk6.get HX5.out id)
  clear hk6
  have x0 : w6.cell? ⟨q, 0, none⟩ = some (.bool false) := cell_of HX6.out (by rfl)
  have x1 : w6.cell? ⟨q, 1, none⟩ = some (.int .u64 0) := cell_of HX6.out (by rfl)
  have x2 : w6.cell? ⟨q, 2, none⟩ = some (.int .u64 (n : Int)) := cell_of HX6.out (by rfl)
  go_wp2
  refine Plan.plQ_mk Plan.chk_end ?_
  cases hsg : signK k
  · rw [hsg] at hfd
    have HV : Hid (getV k s = ⟨false, 0, n⟩) := hid (by rw [HGV.out, if_neg (by rw [hsg]; simp)])
    clear hsg
    refine Plan.pl_st rfl ?_; go_big_quiet_step (fail); refine wpQuiet_nil ?_
    refine Plan.pl_st rfl ?_; go_big_quiet_step (fail); refine wpQuiet_nil ?_
    refine Plan.pl_st rfl ?_; go_big_quiet_step (fail); refine wpQuiet_nil ?_
    refine Plan.pl_st rfl ?_; go_big_quiet_step (fail); refine wpQuiet_nil ?_
    refine Plan.pl_ac rfl ?_
    go_wp2
    refine Plan.plQ_mk ?_ ?_
    · repeat (refine Plan.chk_st rfl ?_ ?_; focus (go_big_quiet_step (fail); exact wpQuiet_nil rfl))
      exact Plan.chk_end
    refine Plan.pl_ac rfl ?_
    go_wp2
    refine Plan.plQ_mk Plan.chk_end ?_
    refine Plan.pl_st rfl ?_; go_big_quiet_step (fail); refine wpQuiet_nil ?_
    refine Plan.pl_st rfl ?_; go_big_quiet_step (fail); refine wpQuiet_nil ?_
    refine Plan.pl_end ?_
    clear hfd x0 x1 x2
    go_wp2_with fail
    refine (rd_done rb _ false _ HR6.out).mono ?_
    rintro r w_ ⟨rfl, rfl⟩
    rw [HDN.out]
    have x0 : w6.cell? ⟨q, 0, none⟩ = some (.bool false) := cell_of HX6.out (by rfl)
    have x1 : w6.cell? ⟨q, 1, none⟩ = some (.int .u64 0) := cell_of HX6.out (by rfl)
    have x2 : w6.cell? ⟨q, 2, none⟩ = some (.int .u64 (n : Int)) := cell_of HX6.out (by rfl)
    go_wp2_with fail
    refine (f_fits k ⟨false, 0, n⟩ ⟨(by have := HNP.out; show (0 : Nat) < 18446744073709551616; omega), (by have := HNP.out; show (n : Nat) < 18446744073709551616; omega)⟩ _).mono ?_
    rintro r w20 ⟨rfl, hk20⟩
    have HK20 := hid (HK6.out.trans hk20); have HB20 := hid (hk20.get HB6.out id); have HR20 := hid (HR6.out.keep0 hk20); have HX20 := hid (hk20.get HX6.out id)
    clear hk20
    clear x0 x1 x2
    have b0 := free_of HB20.out 0
    have b1 := free_of HB20.out 1
    have b2 := free_of HB20.out 2
    have bc0 := cell_of HB20.out (i := 0) (by rfl)
    have bc1 := cell_of HB20.out (i := 1) (by rfl)
    have bc2 := cell_of HB20.out (i := 2) (by rfl)
    have x0 : w20.cell? ⟨q, 0, none⟩ = some (.bool false) := cell_of HX20.out (by rfl)
    have x1 : w20.cell? ⟨q, 1, none⟩ = some (.int .u64 0) := cell_of HX20.out (by rfl)
    have x2 : w20.cell? ⟨q, 2, none⟩ = some (.int .u64 (n : Int)) := cell_of HX20.out (by rfl)
    have HGR : Hid (getR k s = .tuple #[WV (if fitsB k ⟨false, 0, n⟩ = true then ⟨false, 0, n⟩ else ⟨false, 0, 0⟩), iV (if fitsB k ⟨false, 0, n⟩ = true then 0 else 4)]) := hid (by unfold getR; rw [HV.out])
    cases hft : fitsB k ⟨false, 0, n⟩
    · have G : Hid (getR k s = .tuple #[WV ⟨false, 0, 0⟩, iV 4]) := hid (by rw [HGR.out, hft]; rfl)
      clear hft HGR
      go_wp2
      (try simp only [Exit.inBlock, Exit.then])
      refine bodyPost_ret (results_ct rfl _ rfl (run_loadVar_row _ sb _ 86 _ _ _ (cells3 (.bool false) (.int .u64 0) (.int .u64 0) HB20.out) Tryz.underlying86 rfl (by kernel_rfl))) rfl ?_
      exact ⟨by rw [G.out]; rfl, ((HK20.out.setCell_new (p := ⟨sb, 0, none⟩) (by have := HSB.out; show _ ≤ sb; omega) _).setCell_new (p := ⟨sb, 1, none⟩) (by have := HSB.out; show _ ≤ sb; omega) _).setCell_new (p := ⟨sb, 2, none⟩) (by have := HSB.out; show _ ≤ sb; omega) _⟩
    · have G : Hid (getR k s = .tuple #[WV ⟨false, 0, n⟩, iV 0]) := hid (by rw [HGR.out, hft]; rfl)
      clear hft HGR
      go_wp2
      (try simp only [Exit.inBlock, Exit.then])
      refine bodyPost_ret (results_ct rfl _ rfl (run_loadVar_row _ sb _ 86 _ _ _ (cells3 (.bool false) (.int .u64 0) (.int .u64 (n : Int)) HB20.out) Tryz.underlying86 rfl (by kernel_rfl))) rfl ?_
      exact ⟨by rw [G.out]; rfl, ((HK20.out.setCell_new (p := ⟨sb, 0, none⟩) (by have := HSB.out; show _ ≤ sb; omega) _).setCell_new (p := ⟨sb, 1, none⟩) (by have := HSB.out; show _ ≤ sb; omega) _).setCell_new (p := ⟨sb, 2, none⟩) (by have := HSB.out; show _ ≤ sb; omega) _⟩
  rw [hsg] at hfd
  refine Plan.pl_st rfl ?_; go_big_quiet_step (fail); refine wpQuiet_nil ?_
  refine Plan.pl_st rfl ?_; go_big_quiet_step (fail); refine wpQuiet_nil ?_
  refine Plan.pl_st rfl ?_; go_big_quiet_step (fail); refine wpQuiet_nil ?_
  refine Plan.pl_st rfl ?_; go_big_quiet_step (fail); refine wpQuiet_nil ?_
  refine Plan.pl_ac rfl ?_
  go_wp2_with fail
  refine (f_great k HKR.out.1 HKR.out.2 _).mono ?_
  rintro r w7 ⟨rfl, hk7⟩
  clear x0 x1 x2 hfd
  have HK7 := hid (HK6.out.trans hk7); have HB7 := hid (hk7.get HB6.out id); have HR7 := hid (HR6.out.keep0 hk7); have HX7 := hid (hk7.get HX6.out id)
  clear hk7
  have x0 : w7.cell? ⟨q, 0, none⟩ = some (.bool false) := cell_of HX7.out (by rfl)
  have x1 : w7.cell? ⟨q, 1, none⟩ = some (.int .u64 0) := cell_of HX7.out (by rfl)
  have x2 : w7.cell? ⟨q, 2, none⟩ = some (.int .u64 (n : Int)) := cell_of HX7.out (by rfl)
  go_wp2
  refine Plan.plQ_mk ?_ ?_
  · repeat (refine Plan.chk_st rfl ?_ ?_; focus (go_big_quiet_step (fail); exact wpQuiet_nil rfl))
    exact Plan.chk_end
  have HGK := hid (greatN_lt k)
  have HC : Hid (cmpW ⟨false, 0, n⟩ ⟨false, 0, greatN k⟩ = cmpI (n : Int) (greatN k : Int)) := hid (cmp_pos _ _)
  rw [hsg] at HGV
  clear hsg
  generalize greatN k = g at *
  refine Plan.pl_ac rfl ?_
  go_wp2_with fail
  refine (w_cmp ⟨false, 0, n⟩ ⟨false, 0, g⟩ ⟨(by decide : (0 : Nat) < 18446744073709551616), (by have := HNP.out; omega : n < 18446744073709551616)⟩ ⟨(by decide : (0 : Nat) < 18446744073709551616), HGK.out⟩ _).mono ?_
  rintro r w8 ⟨rfl, hk8⟩
  clear x0 x1 x2
  have HK8 := hid (HK7.out.trans hk8); have HB8 := hid (hk8.get HB7.out id); have HR8 := hid (HR7.out.keep0 hk8); have HX8 := hid (hk8.get HX7.out id)
  clear hk8
  have x0 : w8.cell? ⟨q, 0, none⟩ = some (.bool false) := cell_of HX8.out (by rfl)
  have x1 : w8.cell? ⟨q, 1, none⟩ = some (.int .u64 0) := cell_of HX8.out (by rfl)
  have x2 : w8.cell? ⟨q, 2, none⟩ = some (.int .u64 (n : Int)) := cell_of HX8.out (by rfl)
  by_cases hgn : g < n
  rotate_left
  · have HV : Hid (getV k s = ⟨false, 0, n⟩) := hid (by rw [HGV.out, if_neg (by intro h; exact hgn h.2)])
    obtain ⟨c, hc⟩ : ∃ c, cmpW ⟨false, 0, n⟩ ⟨false, 0, g⟩ = c := ⟨_, rfl⟩
    have hdc : decide (0 < c) = false := decide_eq_false (by rw [← hc, HC.out]; unfold cmpI; split; omega; split <;> omega)
    rw [hc]
    clear hc hgn
    go_wp2
    refine Plan.plQ_mk Plan.chk_end ?_
    refine Plan.pl_st rfl ?_; go_big_quiet_step (fail); refine wpQuiet_nil ?_
    refine Plan.pl_st rfl ?_; go_big_quiet_step (fail); refine wpQuiet_nil ?_
    refine Plan.pl_end ?_
    clear x0 x1 x2 hdc
    go_wp2_with fail
    refine (rd_done rb _ false _ HR8.out).mono ?_
    rintro r w_ ⟨rfl, rfl⟩
    rw [HDN.out]
    have x0 : w8.cell? ⟨q, 0, none⟩ = some (.bool false) := cell_of HX8.out (by rfl)
    have x1 : w8.cell? ⟨q, 1, none⟩ = some (.int .u64 0) := cell_of HX8.out (by rfl)
    have x2 : w8.cell? ⟨q, 2, none⟩ = some (.int .u64 (n : Int)) := cell_of HX8.out (by rfl)
    go_wp2_with fail
    refine (f_fits k ⟨false, 0, n⟩ ⟨(by have := HNP.out; show (0 : Nat) < 18446744073709551616; omega), (by have := HNP.out; show (n : Nat) < 18446744073709551616; omega)⟩ _).mono ?_
    rintro r w20 ⟨rfl, hk20⟩
    have HK20 := hid (HK8.out.trans hk20); have HB20 := hid (hk20.get HB8.out id); have HR20 := hid (HR8.out.keep0 hk20); have HX20 := hid (hk20.get HX8.out id)
    clear hk20
    clear x0 x1 x2
    have b0 := free_of HB20.out 0
    have b1 := free_of HB20.out 1
    have b2 := free_of HB20.out 2
    have bc0 := cell_of HB20.out (i := 0) (by rfl)
    have bc1 := cell_of HB20.out (i := 1) (by rfl)
    have bc2 := cell_of HB20.out (i := 2) (by rfl)
    have x0 : w20.cell? ⟨q, 0, none⟩ = some (.bool false) := cell_of HX20.out (by rfl)
    have x1 : w20.cell? ⟨q, 1, none⟩ = some (.int .u64 0) := cell_of HX20.out (by rfl)
    have x2 : w20.cell? ⟨q, 2, none⟩ = some (.int .u64 (n : Int)) := cell_of HX20.out (by rfl)
    have HGR : Hid (getR k s = .tuple #[WV (if fitsB k ⟨false, 0, n⟩ = true then ⟨false, 0, n⟩ else ⟨false, 0, 0⟩), iV (if fitsB k ⟨false, 0, n⟩ = true then 0 else 4)]) := hid (by unfold getR; rw [HV.out])
    cases hft : fitsB k ⟨false, 0, n⟩
    · have G : Hid (getR k s = .tuple #[WV ⟨false, 0, 0⟩, iV 4]) := hid (by rw [HGR.out, hft]; rfl)
      clear hft HGR
      go_wp2
      (try simp only [Exit.inBlock, Exit.then])
      refine bodyPost_ret (results_ct rfl _ rfl (run_loadVar_row _ sb _ 86 _ _ _ (cells3 (.bool false) (.int .u64 0) (.int .u64 0) HB20.out) Tryz.underlying86 rfl (by kernel_rfl))) rfl ?_
      exact ⟨by rw [G.out]; rfl, ((HK20.out.setCell_new (p := ⟨sb, 0, none⟩) (by have := HSB.out; show _ ≤ sb; omega) _).setCell_new (p := ⟨sb, 1, none⟩) (by have := HSB.out; show _ ≤ sb; omega) _).setCell_new (p := ⟨sb, 2, none⟩) (by have := HSB.out; show _ ≤ sb; omega) _⟩
    · have G : Hid (getR k s = .tuple #[WV ⟨false, 0, n⟩, iV 0]) := hid (by rw [HGR.out, hft]; rfl)
      clear hft HGR
      go_wp2
      (try simp only [Exit.inBlock, Exit.then])
      refine bodyPost_ret (results_ct rfl _ rfl (run_loadVar_row _ sb _ 86 _ _ _ (cells3 (.bool false) (.int .u64 0) (.int .u64 (n : Int)) HB20.out) Tryz.underlying86 rfl (by kernel_rfl))) rfl ?_
      exact ⟨by rw [G.out]; rfl, ((HK20.out.setCell_new (p := ⟨sb, 0, none⟩) (by have := HSB.out; show _ ≤ sb; omega) _).setCell_new (p := ⟨sb, 1, none⟩) (by have := HSB.out; show _ ≤ sb; omega) _).setCell_new (p := ⟨sb, 2, none⟩) (by have := HSB.out; show _ ≤ sb; omega) _⟩
  have HV : Hid (getV k s = ⟨true, 0, 256 - n⟩) := hid (by rw [HGV.out, if_pos (by simpa using hgn)])
  have hc : cmpW ⟨false, 0, n⟩ ⟨false, 0, g⟩ = 1 := by rw [HC.out]; unfold cmpI; rw [if_pos (by omega)]
  rw [hc]
  have HGN := hid hgn
  clear hc hgn
  go_wp2
  refine Plan.plQ_mk Plan.chk_end ?_
  refine Plan.pl_st rfl ?_; go_big_quiet_step (fail); refine wpQuiet_nil ?_
  refine Plan.pl_st rfl ?_; go_big_quiet_step (fail); refine wpQuiet_nil ?_
  refine Plan.pl_end ?_
  clear x0 x1 x2
  have x0 : w8.drew.cell? ⟨q, 0, none⟩ = some (.bool false) := cell_of HX8.out (by rfl)
  have x1 : w8.drew.cell? ⟨q, 1, none⟩ = some (.int .u64 0) := cell_of HX8.out (by rfl)
  have x2 : w8.drew.cell? ⟨q, 2, none⟩ = some (.int .u64 (n : Int)) := cell_of HX8.out (by rfl)
  go_upto_region 7 with fail
  refine Plan.wp_region_pl [(false, 0, []), (false, 1, []), (false, 2, []), (true, 3, [0]), (true, 4, [0]), (true, 5, []), (false, 6, []), (false, 7, []), (false, 8, []), (true, 9, [8])] (by as_aux_lemma => kernel_rfl) (by as_aux_lemma => kernel_rfl) ?_
  refine Plan.pl_st rfl ?_; go_big_quiet_step (fail); refine wpQuiet_nil ?_
  refine Plan.pl_st rfl ?_; go_big_quiet_step (fail); refine wpQuiet_nil ?_
  refine Plan.pl_st rfl ?_; go_big_quiet_step (fail); refine wpQuiet_nil ?_
  refine Plan.pl_ac rfl ?_
  go_wp2_with fail
  refine (f_power 8 (by omega) _).mono ?_
  rintro r w_ ⟨rfl, rfl⟩
  go_wp2
  refine Plan.plQ_mk ?_ ?_
  · repeat (refine Plan.chk_st rfl ?_ ?_; focus (go_big_quiet_step (fail); exact wpQuiet_nil rfl))
    exact Plan.chk_end
  refine Plan.pl_ac rfl ?_
  go_wp2_with fail
  refine (w_ofword 255 _).mono ?_
  rintro r w9 ⟨rfl, hk9⟩
  have hk9 := (Keep.refl _ w8).drew.trans hk9
  clear x0 x1 x2
  have HK9 := hid (HK8.out.trans hk9); have HB9 := hid (hk9.get HB8.out id); have HR9 := hid (HR8.out.keep0 hk9); have HX9 := hid (hk9.get HX8.out id)
  clear hk9
  have x0 : w9.cell? ⟨q, 0, none⟩ = some (.bool false) := cell_of HX9.out (by rfl)
  have x1 : w9.cell? ⟨q, 1, none⟩ = some (.int .u64 0) := cell_of HX9.out (by rfl)
  have x2 : w9.cell? ⟨q, 2, none⟩ = some (.int .u64 (n : Int)) := cell_of HX9.out (by rfl)
  go_wp2
  refine Plan.plQ_mk ?_ ?_
  · repeat (refine Plan.chk_st rfl ?_ ?_; focus (go_big_quiet_step (fail); exact wpQuiet_nil rfl))
    exact Plan.chk_end
  refine Plan.pl_ac rfl ?_
  go_wp2_with fail
  refine (w_sub_pp n 255 (by decide) (by have := HNP.out; omega) (by decide) _).mono ?_
  rintro r w10 ⟨rfl, hk10⟩
  clear x0 x1 x2
  have HK10 := hid (HK9.out.trans hk10); have HB10 := hid (hk10.get HB9.out id); have HR10 := hid (HR9.out.keep0 hk10); have HX10 := hid (hk10.get HX9.out id)
  clear hk10
  have HSUB : Hid (∀ wz, Calls Tryz.prog 121 #[WV (normW true 0 (255 - n)), WV ⟨false, 0, 1⟩] wz fun r w' => r = .returned (.tuple #[WV ⟨true, 0, 256 - n⟩, .int .i64 0]) ∧ Keep (fun _ => False) wz w') := hid (by
    intro wz
    by_cases h0 : 255 - n = 0
    · rw [h0, show normW true 0 0 = ⟨false, 0, 0⟩ from rfl]
      have h := w_sub_pp 0 1 (by decide) (by decide) (by decide) wz
      rwa [show normW true 0 (1 - 0) = ⟨true, 0, 256 - n⟩ by rw [show 256 - n = 1 - 0 by have := HNP.out; omega]; rfl] at h
    · rw [normW_neg _ (by omega)]
      have h := w_sub_nn (255 - n) 1 (by omega) (by decide) (by have := HGN.out; omega) wz
      rwa [show 255 - n + 1 = 256 - n by have := HNP.out; omega] at h)
  generalize normW true 0 (255 - n) = y at *
  have x0 := cell_of HX10.out (i := 0) (by rfl)
  have x1 := cell_of HX10.out (i := 1) (by rfl)
  have x2 := cell_of HX10.out (i := 2) (by rfl)
  have y0 := free_of HX10.out 0
  have y1 := free_of HX10.out 1
  have y2 := free_of HX10.out 2
  go_wp2
  refine Plan.plQ_mk Plan.chk_end ?_
  refine Plan.pl_st rfl ?_; go_big_quiet_step (fail); refine wpQuiet_nil ?_
  refine Plan.pl_st rfl ?_; go_big_quiet_step (fail); refine wpQuiet_nil ?_
  refine Plan.pl_st rfl ?_; go_big_quiet_step (fail); refine wpQuiet_nil ?_
  refine Plan.pl_ac rfl ?_
  go_wp2
  refine Plan.plQ_mk ?_ ?_
  · repeat (refine Plan.chk_st rfl ?_ ?_; focus (go_big_quiet_step (fail); exact wpQuiet_nil rfl))
    exact Plan.chk_end
  refine Plan.pl_end ?_
  clear x0 x1 x2 y0 y1 y2
  have hx11 := cells3 (.bool y.neg) (.int .u64 (y.hi : Int)) (.int .u64 (y.lo : Int)) HX10.out
  have hk11 := (((Keep.refl (fun g => g = q) w10).setCell (p := ⟨q, 0, none⟩) rfl (.bool y.neg)).setCell (p := ⟨q, 1, none⟩) rfl (.int .u64 (y.hi : Int))).setCell (p := ⟨q, 2, none⟩) rfl (.int .u64 (y.lo : Int))
  go_upto_region 8 with fail
  generalize ((w10.setCell ⟨q, 0, none⟩ (.bool y.neg)).setCell ⟨q, 1, none⟩ (.int .u64 (y.hi : Int))).setCell ⟨q, 2, none⟩ (.int .u64 (y.lo : Int)) = w11 at *
  have HK11 := hid (keep_new HK10.out hk11 (fun g hg => by have := HSB.out; have := HS1.out; have := HS4.out; omega)).drew; have HB11 := hid (hk11.drew.get HB10.out (by have := HS1.out; have := HS4.out; omega)); have HR11 := hid (hk11.drew.get HR10.out (by have := HS4.out; omega)); have HX11 : Hid (w11.drew.heap[q]? = _) := hid hx11
  clear hk11 hx11
  have x0 := cell_of HX11.out (i := 0) (by rfl)
  have x1 := cell_of HX11.out (i := 1) (by rfl)
  have x2 := cell_of HX11.out (i := 2) (by rfl)
  refine Plan.wp_region_pl [(false, 0, []), (true, 1, [0]), (true, 2, []), (false, 3, []), (false, 4, []), (false, 5, []), (true, 6, [5])] (by as_aux_lemma => kernel_rfl) (by as_aux_lemma => kernel_rfl) ?_
  refine Plan.pl_st rfl ?_; go_big_quiet_step (fail); refine wpQuiet_nil ?_
  refine Plan.pl_ac rfl ?_
  go_wp2_with fail
  refine (w_of 1 (by decide) _).mono ?_
  rintro r w12 ⟨rfl, hk12⟩
  clear x0 x1 x2
  have HK12 := hid (HK11.out.trans hk12); have HB12 := hid (hk12.get HB11.out id); have HR12 := hid (hk12.get HR11.out id); have HX12 := hid (hk12.get HX11.out id)
  clear hk12
  have x0 := cell_of HX12.out (i := 0) (by rfl)
  have x1 := cell_of HX12.out (i := 1) (by rfl)
  have x2 := cell_of HX12.out (i := 2) (by rfl)
  go_wp2
  refine Plan.plQ_mk ?_ ?_
  · repeat (refine Plan.chk_st rfl ?_ ?_; focus (go_big_quiet_step (fail); exact wpQuiet_nil rfl))
    exact Plan.chk_end
  refine Plan.pl_ac rfl ?_
  go_wp2_with fail
  refine (HSUB.out _).mono ?_
  rintro r w13 ⟨rfl, hk13⟩
  clear x0 x1 x2
  have HK13 := hid (HK12.out.trans hk13); have HB13 := hid (hk13.get HB12.out id); have HR13 := hid (hk13.get HR12.out id); have HX13 := hid (hk13.get HX12.out id)
  clear hk13
  have HM6 : Hid (256 - n < 18446744073709551616) := hid (by have := HGN.out; omega)
  generalize 256 - n = m at *
  have x0 := cell_of HX13.out (i := 0) (by rfl)
  have x1 := cell_of HX13.out (i := 1) (by rfl)
  have x2 := cell_of HX13.out (i := 2) (by rfl)
  have y0 := free_of HX13.out 0
  have y1 := free_of HX13.out 1
  have y2 := free_of HX13.out 2
  go_wp2
  refine Plan.plQ_mk Plan.chk_end ?_
  refine Plan.pl_st rfl ?_; go_big_quiet_step (fail); refine wpQuiet_nil ?_
  refine Plan.pl_st rfl ?_; go_big_quiet_step (fail); refine wpQuiet_nil ?_
  refine Plan.pl_st rfl ?_; go_big_quiet_step (fail); refine wpQuiet_nil ?_
  refine Plan.pl_ac rfl ?_
  go_wp2
  refine Plan.plQ_mk ?_ ?_
  · repeat (refine Plan.chk_st rfl ?_ ?_; focus (go_big_quiet_step (fail); exact wpQuiet_nil rfl))
    exact Plan.chk_end
  refine Plan.pl_end ?_
  clear x0 x1 x2 y0 y1 y2
  have hx14 := cells3 (.bool true) (.int .u64 ((0 : Nat) : Int)) (.int .u64 (m : Int)) HX13.out
  have hk14 := (((Keep.refl (fun g => g = q) w13).setCell (p := ⟨q, 0, none⟩) rfl (.bool true)).setCell (p := ⟨q, 1, none⟩) rfl (.int .u64 ((0 : Nat) : Int))).setCell (p := ⟨q, 2, none⟩) rfl (.int .u64 (m : Int))
  go_upto_region 9 with fail
  generalize ((w13.setCell ⟨q, 0, none⟩ (.bool true)).setCell ⟨q, 1, none⟩ (.int .u64 ((0 : Nat) : Int))).setCell ⟨q, 2, none⟩ (.int .u64 (m : Int)) = w14 at *
  have HK14 := hid (keep_new HK13.out hk14 (fun g hg => by have := HSB.out; have := HS1.out; have := HS4.out; omega)); have HB14 := hid (hk14.get HB13.out (by have := HS1.out; have := HS4.out; omega)); have HR14 : Hid (RdS w14 rb (s.extract 1 s.size) false) := hid (hk14.get HR13.out (by have := HS4.out; omega)); have HX14 := hid hx14
  clear hk14 hx14
  go_wp2_with fail
  refine (rd_done rb _ false _ HR14.out).mono ?_
  rintro r w_ ⟨rfl, rfl⟩
  rw [HDN.out]
  have x0 : w14.cell? ⟨q, 0, none⟩ = some (.bool true) := cell_of HX14.out (by rfl)
  have x1 : w14.cell? ⟨q, 1, none⟩ = some (.int .u64 0) := cell_of HX14.out (by rfl)
  have x2 : w14.cell? ⟨q, 2, none⟩ = some (.int .u64 (m : Int)) := cell_of HX14.out (by rfl)
  go_wp2_with fail
  refine (f_fits k ⟨true, 0, m⟩ ⟨(by have := HM6.out; show (0 : Nat) < 18446744073709551616; omega), (by have := HM6.out; show (m : Nat) < 18446744073709551616; omega)⟩ _).mono ?_
  rintro r w20 ⟨rfl, hk20⟩
  have HK20 := hid (HK14.out.trans hk20); have HB20 := hid (hk20.get HB14.out id); have HR20 := hid (HR14.out.keep0 hk20); have HX20 := hid (hk20.get HX14.out id)
  clear hk20
  clear x0 x1 x2
  have b0 := free_of HB20.out 0
  have b1 := free_of HB20.out 1
  have b2 := free_of HB20.out 2
  have bc0 := cell_of HB20.out (i := 0) (by rfl)
  have bc1 := cell_of HB20.out (i := 1) (by rfl)
  have bc2 := cell_of HB20.out (i := 2) (by rfl)
  have x0 : w20.cell? ⟨q, 0, none⟩ = some (.bool true) := cell_of HX20.out (by rfl)
  have x1 : w20.cell? ⟨q, 1, none⟩ = some (.int .u64 0) := cell_of HX20.out (by rfl)
  have x2 : w20.cell? ⟨q, 2, none⟩ = some (.int .u64 (m : Int)) := cell_of HX20.out (by rfl)
  have HGR : Hid (getR k s = .tuple #[WV (if fitsB k ⟨true, 0, m⟩ = true then ⟨true, 0, m⟩ else ⟨false, 0, 0⟩), iV (if fitsB k ⟨true, 0, m⟩ = true then 0 else 4)]) := hid (by unfold getR; rw [HV.out])
  cases hft : fitsB k ⟨true, 0, m⟩
  · have G : Hid (getR k s = .tuple #[WV ⟨false, 0, 0⟩, iV 4]) := hid (by rw [HGR.out, hft]; rfl)
    clear hft HGR
    go_wp2
    (try simp only [Exit.inBlock, Exit.then])
    refine bodyPost_ret (results_ct rfl _ rfl (run_loadVar_row _ sb _ 86 _ _ _ (cells3 (.bool false) (.int .u64 0) (.int .u64 0) HB20.out) Tryz.underlying86 rfl (by kernel_rfl))) rfl ?_
    exact ⟨by rw [G.out]; rfl, ((HK20.out.setCell_new (p := ⟨sb, 0, none⟩) (by have := HSB.out; show _ ≤ sb; omega) _).setCell_new (p := ⟨sb, 1, none⟩) (by have := HSB.out; show _ ≤ sb; omega) _).setCell_new (p := ⟨sb, 2, none⟩) (by have := HSB.out; show _ ≤ sb; omega) _⟩
  · have G : Hid (getR k s = .tuple #[WV ⟨true, 0, m⟩, iV 0]) := hid (by rw [HGR.out, hft]; rfl)
    clear hft HGR
    go_wp2
    (try simp only [Exit.inBlock, Exit.then])
    refine bodyPost_ret (results_ct rfl _ rfl (run_loadVar_row _ sb _ 86 _ _ _ (cells3 (.bool true) (.int .u64 0) (.int .u64 (m : Int)) HB20.out) Tryz.underlying86 rfl (by kernel_rfl))) rfl ?_
    exact ⟨by rw [G.out]; rfl, ((HK20.out.setCell_new (p := ⟨sb, 0, none⟩) (by have := HSB.out; show _ ≤ sb; omega) _).setCell_new (p := ⟨sb, 1, none⟩) (by have := HSB.out; show _ ≤ sb; omega) _).setCell_new (p := ⟨sb, 2, none⟩) (by have := HSB.out; show _ ≤ sb; omega) _⟩

set_option maxRecDepth 20000 in
set_option maxHeartbeats 8000000 in
theorem f_get2 (k : Int) (hk : kindB k = true) (hz : szN k = 2) (s : ByteArray) (hs : s.size = 2) (w : World) : Calls Tryz.prog 81 #[.int .i64 k, .string s] w fun r w' => r = .returned (getR k s) ∧ Keep (fun _ => False) w w' := by
  have hkr : 1 ≤ k ∧ k ≤ 10 := of_decide_eq_true hk
  have HKR := hid hkr; have HKD := hid hk
  have HSZ : Hid (sizeK k = (2 : Int)) := hid (by rw [sz_cast, hz]; rfl)
  have HS := hid hs
  have HNP : Hid (firstN s 2 < 65536) := hid (by
    have h1 := leN_lt (s.data.toList.take 2)
    have h2 : (s.data.toList.take 2).length ≤ 2 := by rw [List.length_take]; omega
    exact Nat.lt_of_lt_of_le h1 (pow_le h2))
  have HDN : Hid ((!false && decide ((s.extract 2 s.size).size = 0)) = true) := hid (by rw [ByteArray.size_extract, hs]; rfl)
  have HGV : Hid (getV k s = if signK k = true ∧ greatN k < firstN s 2 then ⟨true, 0, 65536 - firstN s 2⟩ else ⟨false, 0, firstN s 2⟩) := hid (by unfold getV; rw [hz])
  obtain ⟨n, hn⟩ : ∃ n, firstN s 2 = n := ⟨_, rfl⟩
  rw [hn] at HNP HGV
  have HN := hid hn
  clear hk hkr hz hs hn
  obtain ⟨w0, hw0, hb0, hs0, hk0⟩ := box1 w Z3 86
  have HB0 := hid hb0; have HK0 := hid hk0; have HSW := hid hs0
  clear hb0 hk0 hs0
  go_enter Tryz.func81, Tryz.ntmps81
  go_upto_region 1 with fail
  rw [← hw0]
  clear hw0
  generalize hsb : w.heap.size = sb at *
  have HSB := hid hsb
  clear hsb
  go_wp2_with fail
  refine (is_kind k _).mono ?_
  rintro r w_ ⟨rfl, rfl⟩
  rw [HKD.out]
  go_wp2_with fail
  refine (size_of k _).mono ?_
  rintro r w1 ⟨rfl, hk1⟩
  rw [HSZ.out]
  have HK1 := hid (HK0.out.trans hk1); have HB1 := hid (hk1.get HB0.out id)
  have HS1 : Hid (sb < w1.heap.size) := hid (by have := hk1.size; have := HSW.out; omega)
  clear hk1
  go_wp2_with fail
  refine (rd_read s _).mono ?_
  rintro r w2 ⟨rfl, hr2, hk2⟩
  have HK2 := hid (HK1.out.trans hk2); have HB2 := hid (hk2.get HB1.out id); have HR2 := hid hr2
  have HS2 := hid (lt_of_heap hr2)
  clear hr2 hk2
  generalize w1.heap.size = rb at *
  go_wp2_with fail
  refine (rd_num_yes rb s 2 (by unfold WideOk; omega) _ (by have := HS.out; omega) (by have := HS.out; omega) HR2.out).mono ?_
  rintro r w3 ⟨rfl, hr3, hk3⟩
  rw [HN.out]
  have HK3 := hid (keep_new HK2.out hk3 (fun g hg => by have := HSB.out; have := HS1.out; omega)); have HB3 := hid (hk3.get HB2.out (by have := HS1.out; omega)); have HR3 := hid hr3
  have HS3 : Hid (rb < w3.heap.size) := hid (lt_of_heap hr3)
  clear hr3 hk3
  go_wp2_with fail
  refine (w_ofword n _).mono ?_
  rintro r w4 ⟨rfl, hk4⟩
  obtain ⟨w5, hw5, hb5, hs5, hk5⟩ := box1 w4 #[.bool false, .int .u64 0, .int .u64 (n : Int)] 86
  have HK5 := hid (((HK3.out.trans hk4).trans hk5).drew); have HB5 := hid ((hk4.trans hk5).drew.get HB3.out id); have HR5 := hid (HR3.out.keep0 (hk4.trans hk5).drew)
  have HX5 : Hid (w5.drew.heap[w4.heap.size]? = _) := hid hb5
  have HS4 : Hid (rb < w4.heap.size) := hid (by have := hk4.size; have := HS3.out; omega)
  clear hk4 hk5 hb5 hs5
  go_upto_region 6 with fail
  rw [← hw5]
  clear hw5
  generalize w4.heap.size = q at *
  have x0 : w5.drew.cell? ⟨q, 0, none⟩ = some (.bool false) := cell_of HX5.out (by rfl)
  have x1 : w5.drew.cell? ⟨q, 1, none⟩ = some (.int .u64 0) := cell_of HX5.out (by rfl)
  have x2 : w5.drew.cell? ⟨q, 2, none⟩ = some (.int .u64 (n : Int)) := cell_of HX5.out (by rfl)
  refine Plan.wp_region_pl [(false, 0, []), (true, 1, []), (false, 2, []), (false, 3, []), (false, 4, []), (false, 5, []), (true, 6, [4]), (true, 7, []), (false, 8, []), (false, 9, [])] (by as_aux_lemma => kernel_rfl) (by as_aux_lemma => kernel_rfl) ?_
  refine Plan.pl_st rfl ?_; go_big_quiet_step (fail); refine wpQuiet_nil ?_
  refine Plan.pl_ac rfl ?_
  go_wp2_with fail
  refine (kind_of k _).mono ?_
  rintro r w6 ⟨nm, rfl, hk6⟩
  have hfd := field_sign nm (sizeK k) (signK k) w6
  clear x0 x1 x2
  have HK6 := hid (HK5.out.trans hk6); have HB6 := hid (hk6.get HB5.out id); have HR6 := hid (HR5.out.keep0 hk6); have HX6 := hid (hk6.get HX5.out id)
  clear hk6
  have x0 : w6.cell? ⟨q, 0, none⟩ = some (.bool false) := cell_of HX6.out (by rfl)
  have x1 : w6.cell? ⟨q, 1, none⟩ = some (.int .u64 0) := cell_of HX6.out (by rfl)
  have x2 : w6.cell? ⟨q, 2, none⟩ = some (.int .u64 (n : Int)) := cell_of HX6.out (by rfl)
  go_wp2
  refine Plan.plQ_mk Plan.chk_end ?_
  cases hsg : signK k
  · rw [hsg] at hfd
    have HV : Hid (getV k s = ⟨false, 0, n⟩) := hid (by rw [HGV.out, if_neg (by rw [hsg]; simp)])
    clear hsg
    refine Plan.pl_st rfl ?_; go_big_quiet_step (fail); refine wpQuiet_nil ?_
    refine Plan.pl_st rfl ?_; go_big_quiet_step (fail); refine wpQuiet_nil ?_
    refine Plan.pl_st rfl ?_; go_big_quiet_step (fail); refine wpQuiet_nil ?_
    refine Plan.pl_st rfl ?_; go_big_quiet_step (fail); refine wpQuiet_nil ?_
    refine Plan.pl_ac rfl ?_
    go_wp2
    refine Plan.plQ_mk ?_ ?_
    · repeat (refine Plan.chk_st rfl ?_ ?_; focus (go_big_quiet_step (fail); exact wpQuiet_nil rfl))
      exact Plan.chk_end
    refine Plan.pl_ac rfl ?_
    go_wp2
    refine Plan.plQ_mk Plan.chk_end ?_
    refine Plan.pl_st rfl ?_; go_big_quiet_step (fail); refine wpQuiet_nil ?_
    refine Plan.pl_st rfl ?_; go_big_quiet_step (fail); refine wpQuiet_nil ?_
    refine Plan.pl_end ?_
    clear hfd x0 x1 x2
    go_wp2_with fail
    refine (rd_done rb _ false _ HR6.out).mono ?_
    rintro r w_ ⟨rfl, rfl⟩
    rw [HDN.out]
    have x0 : w6.cell? ⟨q, 0, none⟩ = some (.bool false) := cell_of HX6.out (by rfl)
    have x1 : w6.cell? ⟨q, 1, none⟩ = some (.int .u64 0) := cell_of HX6.out (by rfl)
    have x2 : w6.cell? ⟨q, 2, none⟩ = some (.int .u64 (n : Int)) := cell_of HX6.out (by rfl)
    go_wp2_with fail
    refine (f_fits k ⟨false, 0, n⟩ ⟨(by have := HNP.out; show (0 : Nat) < 18446744073709551616; omega), (by have := HNP.out; show (n : Nat) < 18446744073709551616; omega)⟩ _).mono ?_
    rintro r w20 ⟨rfl, hk20⟩
    have HK20 := hid (HK6.out.trans hk20); have HB20 := hid (hk20.get HB6.out id); have HR20 := hid (HR6.out.keep0 hk20); have HX20 := hid (hk20.get HX6.out id)
    clear hk20
    clear x0 x1 x2
    have b0 := free_of HB20.out 0
    have b1 := free_of HB20.out 1
    have b2 := free_of HB20.out 2
    have bc0 := cell_of HB20.out (i := 0) (by rfl)
    have bc1 := cell_of HB20.out (i := 1) (by rfl)
    have bc2 := cell_of HB20.out (i := 2) (by rfl)
    have x0 : w20.cell? ⟨q, 0, none⟩ = some (.bool false) := cell_of HX20.out (by rfl)
    have x1 : w20.cell? ⟨q, 1, none⟩ = some (.int .u64 0) := cell_of HX20.out (by rfl)
    have x2 : w20.cell? ⟨q, 2, none⟩ = some (.int .u64 (n : Int)) := cell_of HX20.out (by rfl)
    have HGR : Hid (getR k s = .tuple #[WV (if fitsB k ⟨false, 0, n⟩ = true then ⟨false, 0, n⟩ else ⟨false, 0, 0⟩), iV (if fitsB k ⟨false, 0, n⟩ = true then 0 else 4)]) := hid (by unfold getR; rw [HV.out])
    cases hft : fitsB k ⟨false, 0, n⟩
    · have G : Hid (getR k s = .tuple #[WV ⟨false, 0, 0⟩, iV 4]) := hid (by rw [HGR.out, hft]; rfl)
      clear hft HGR
      go_wp2
      (try simp only [Exit.inBlock, Exit.then])
      refine bodyPost_ret (results_ct rfl _ rfl (run_loadVar_row _ sb _ 86 _ _ _ (cells3 (.bool false) (.int .u64 0) (.int .u64 0) HB20.out) Tryz.underlying86 rfl (by kernel_rfl))) rfl ?_
      exact ⟨by rw [G.out]; rfl, ((HK20.out.setCell_new (p := ⟨sb, 0, none⟩) (by have := HSB.out; show _ ≤ sb; omega) _).setCell_new (p := ⟨sb, 1, none⟩) (by have := HSB.out; show _ ≤ sb; omega) _).setCell_new (p := ⟨sb, 2, none⟩) (by have := HSB.out; show _ ≤ sb; omega) _⟩
    · have G : Hid (getR k s = .tuple #[WV ⟨false, 0, n⟩, iV 0]) := hid (by rw [HGR.out, hft]; rfl)
      clear hft HGR
      go_wp2
      (try simp only [Exit.inBlock, Exit.then])
      refine bodyPost_ret (results_ct rfl _ rfl (run_loadVar_row _ sb _ 86 _ _ _ (cells3 (.bool false) (.int .u64 0) (.int .u64 (n : Int)) HB20.out) Tryz.underlying86 rfl (by kernel_rfl))) rfl ?_
      exact ⟨by rw [G.out]; rfl, ((HK20.out.setCell_new (p := ⟨sb, 0, none⟩) (by have := HSB.out; show _ ≤ sb; omega) _).setCell_new (p := ⟨sb, 1, none⟩) (by have := HSB.out; show _ ≤ sb; omega) _).setCell_new (p := ⟨sb, 2, none⟩) (by have := HSB.out; show _ ≤ sb; omega) _⟩
  rw [hsg] at hfd
  refine Plan.pl_st rfl ?_; go_big_quiet_step (fail); refine wpQuiet_nil ?_
  refine Plan.pl_st rfl ?_; go_big_quiet_step (fail); refine wpQuiet_nil ?_
  refine Plan.pl_st rfl ?_; go_big_quiet_step (fail); refine wpQuiet_nil ?_
  refine Plan.pl_st rfl ?_; go_big_quiet_step (fail); refine wpQuiet_nil ?_
  refine Plan.pl_ac rfl ?_
  go_wp2_with fail
  refine (f_great k HKR.out.1 HKR.out.2 _).mono ?_
  rintro r w7 ⟨rfl, hk7⟩
  clear x0 x1 x2 hfd
  have HK7 := hid (HK6.out.trans hk7); have HB7 := hid (hk7.get HB6.out id); have HR7 := hid (HR6.out.keep0 hk7); have HX7 := hid (hk7.get HX6.out id)
  clear hk7
  have x0 : w7.cell? ⟨q, 0, none⟩ = some (.bool false) := cell_of HX7.out (by rfl)
  have x1 : w7.cell? ⟨q, 1, none⟩ = some (.int .u64 0) := cell_of HX7.out (by rfl)
  have x2 : w7.cell? ⟨q, 2, none⟩ = some (.int .u64 (n : Int)) := cell_of HX7.out (by rfl)
  go_wp2
  refine Plan.plQ_mk ?_ ?_
  · repeat (refine Plan.chk_st rfl ?_ ?_; focus (go_big_quiet_step (fail); exact wpQuiet_nil rfl))
    exact Plan.chk_end
  have HGK := hid (greatN_lt k)
  have HC : Hid (cmpW ⟨false, 0, n⟩ ⟨false, 0, greatN k⟩ = cmpI (n : Int) (greatN k : Int)) := hid (cmp_pos _ _)
  rw [hsg] at HGV
  clear hsg
  generalize greatN k = g at *
  refine Plan.pl_ac rfl ?_
  go_wp2_with fail
  refine (w_cmp ⟨false, 0, n⟩ ⟨false, 0, g⟩ ⟨(by decide : (0 : Nat) < 18446744073709551616), (by have := HNP.out; omega : n < 18446744073709551616)⟩ ⟨(by decide : (0 : Nat) < 18446744073709551616), HGK.out⟩ _).mono ?_
  rintro r w8 ⟨rfl, hk8⟩
  clear x0 x1 x2
  have HK8 := hid (HK7.out.trans hk8); have HB8 := hid (hk8.get HB7.out id); have HR8 := hid (HR7.out.keep0 hk8); have HX8 := hid (hk8.get HX7.out id)
  clear hk8
  have x0 : w8.cell? ⟨q, 0, none⟩ = some (.bool false) := cell_of HX8.out (by rfl)
  have x1 : w8.cell? ⟨q, 1, none⟩ = some (.int .u64 0) := cell_of HX8.out (by rfl)
  have x2 : w8.cell? ⟨q, 2, none⟩ = some (.int .u64 (n : Int)) := cell_of HX8.out (by rfl)
  by_cases hgn : g < n
  rotate_left
  · have HV : Hid (getV k s = ⟨false, 0, n⟩) := hid (by rw [HGV.out, if_neg (by intro h; exact hgn h.2)])
    obtain ⟨c, hc⟩ : ∃ c, cmpW ⟨false, 0, n⟩ ⟨false, 0, g⟩ = c := ⟨_, rfl⟩
    have hdc : decide (0 < c) = false := decide_eq_false (by rw [← hc, HC.out]; unfold cmpI; split; omega; split <;> omega)
    rw [hc]
    clear hc hgn
    go_wp2
    refine Plan.plQ_mk Plan.chk_end ?_
    refine Plan.pl_st rfl ?_; go_big_quiet_step (fail); refine wpQuiet_nil ?_
    refine Plan.pl_st rfl ?_; go_big_quiet_step (fail); refine wpQuiet_nil ?_
    refine Plan.pl_end ?_
    clear x0 x1 x2 hdc
    go_wp2_with fail
    refine (rd_done rb _ false _ HR8.out).mono ?_
    rintro r w_ ⟨rfl, rfl⟩
    rw [HDN.out]
    have x0 : w8.cell? ⟨q, 0, none⟩ = some (.bool false) := cell_of HX8.out (by rfl)
    have x1 : w8.cell? ⟨q, 1, none⟩ = some (.int .u64 0) := cell_of HX8.out (by rfl)
    have x2 : w8.cell? ⟨q, 2, none⟩ = some (.int .u64 (n : Int)) := cell_of HX8.out (by rfl)
    go_wp2_with fail
    refine (f_fits k ⟨false, 0, n⟩ ⟨(by have := HNP.out; show (0 : Nat) < 18446744073709551616; omega), (by have := HNP.out; show (n : Nat) < 18446744073709551616; omega)⟩ _).mono ?_
    rintro r w20 ⟨rfl, hk20⟩
    have HK20 := hid (HK8.out.trans hk20); have HB20 := hid (hk20.get HB8.out id); have HR20 := hid (HR8.out.keep0 hk20); have HX20 := hid (hk20.get HX8.out id)
    clear hk20
    clear x0 x1 x2
    have b0 := free_of HB20.out 0
    have b1 := free_of HB20.out 1
    have b2 := free_of HB20.out 2
    have bc0 := cell_of HB20.out (i := 0) (by rfl)
    have bc1 := cell_of HB20.out (i := 1) (by rfl)
    have bc2 := cell_of HB20.out (i := 2) (by rfl)
    have x0 : w20.cell? ⟨q, 0, none⟩ = some (.bool false) := cell_of HX20.out (by rfl)
    have x1 : w20.cell? ⟨q, 1, none⟩ = some (.int .u64 0) := cell_of HX20.out (by rfl)
    have x2 : w20.cell? ⟨q, 2, none⟩ = some (.int .u64 (n : Int)) := cell_of HX20.out (by rfl)
    have HGR : Hid (getR k s = .tuple #[WV (if fitsB k ⟨false, 0, n⟩ = true then ⟨false, 0, n⟩ else ⟨false, 0, 0⟩), iV (if fitsB k ⟨false, 0, n⟩ = true then 0 else 4)]) := hid (by unfold getR; rw [HV.out])
    cases hft : fitsB k ⟨false, 0, n⟩
    · have G : Hid (getR k s = .tuple #[WV ⟨false, 0, 0⟩, iV 4]) := hid (by rw [HGR.out, hft]; rfl)
      clear hft HGR
      go_wp2
      (try simp only [Exit.inBlock, Exit.then])
      refine bodyPost_ret (results_ct rfl _ rfl (run_loadVar_row _ sb _ 86 _ _ _ (cells3 (.bool false) (.int .u64 0) (.int .u64 0) HB20.out) Tryz.underlying86 rfl (by kernel_rfl))) rfl ?_
      exact ⟨by rw [G.out]; rfl, ((HK20.out.setCell_new (p := ⟨sb, 0, none⟩) (by have := HSB.out; show _ ≤ sb; omega) _).setCell_new (p := ⟨sb, 1, none⟩) (by have := HSB.out; show _ ≤ sb; omega) _).setCell_new (p := ⟨sb, 2, none⟩) (by have := HSB.out; show _ ≤ sb; omega) _⟩
    · have G : Hid (getR k s = .tuple #[WV ⟨false, 0, n⟩, iV 0]) := hid (by rw [HGR.out, hft]; rfl)
      clear hft HGR
      go_wp2
      (try simp only [Exit.inBlock, Exit.then])
      refine bodyPost_ret (results_ct rfl _ rfl (run_loadVar_row _ sb _ 86 _ _ _ (cells3 (.bool false) (.int .u64 0) (.int .u64 (n : Int)) HB20.out) Tryz.underlying86 rfl (by kernel_rfl))) rfl ?_
      exact ⟨by rw [G.out]; rfl, ((HK20.out.setCell_new (p := ⟨sb, 0, none⟩) (by have := HSB.out; show _ ≤ sb; omega) _).setCell_new (p := ⟨sb, 1, none⟩) (by have := HSB.out; show _ ≤ sb; omega) _).setCell_new (p := ⟨sb, 2, none⟩) (by have := HSB.out; show _ ≤ sb; omega) _⟩
  have HV : Hid (getV k s = ⟨true, 0, 65536 - n⟩) := hid (by rw [HGV.out, if_pos (by simpa using hgn)])
  have hc : cmpW ⟨false, 0, n⟩ ⟨false, 0, g⟩ = 1 := by rw [HC.out]; unfold cmpI; rw [if_pos (by omega)]
  rw [hc]
  have HGN := hid hgn
  clear hc hgn
  go_wp2
  refine Plan.plQ_mk Plan.chk_end ?_
  refine Plan.pl_st rfl ?_; go_big_quiet_step (fail); refine wpQuiet_nil ?_
  refine Plan.pl_st rfl ?_; go_big_quiet_step (fail); refine wpQuiet_nil ?_
  refine Plan.pl_end ?_
  clear x0 x1 x2
  have x0 : w8.drew.cell? ⟨q, 0, none⟩ = some (.bool false) := cell_of HX8.out (by rfl)
  have x1 : w8.drew.cell? ⟨q, 1, none⟩ = some (.int .u64 0) := cell_of HX8.out (by rfl)
  have x2 : w8.drew.cell? ⟨q, 2, none⟩ = some (.int .u64 (n : Int)) := cell_of HX8.out (by rfl)
  go_upto_region 7 with fail
  refine Plan.wp_region_pl [(false, 0, []), (false, 1, []), (false, 2, []), (true, 3, [0]), (true, 4, [0]), (true, 5, []), (false, 6, []), (false, 7, []), (false, 8, []), (true, 9, [8])] (by as_aux_lemma => kernel_rfl) (by as_aux_lemma => kernel_rfl) ?_
  refine Plan.pl_st rfl ?_; go_big_quiet_step (fail); refine wpQuiet_nil ?_
  refine Plan.pl_st rfl ?_; go_big_quiet_step (fail); refine wpQuiet_nil ?_
  refine Plan.pl_st rfl ?_; go_big_quiet_step (fail); refine wpQuiet_nil ?_
  refine Plan.pl_ac rfl ?_
  go_wp2_with fail
  refine (f_power 16 (by omega) _).mono ?_
  rintro r w_ ⟨rfl, rfl⟩
  go_wp2
  refine Plan.plQ_mk ?_ ?_
  · repeat (refine Plan.chk_st rfl ?_ ?_; focus (go_big_quiet_step (fail); exact wpQuiet_nil rfl))
    exact Plan.chk_end
  refine Plan.pl_ac rfl ?_
  go_wp2_with fail
  refine (w_ofword 65535 _).mono ?_
  rintro r w9 ⟨rfl, hk9⟩
  have hk9 := (Keep.refl _ w8).drew.trans hk9
  clear x0 x1 x2
  have HK9 := hid (HK8.out.trans hk9); have HB9 := hid (hk9.get HB8.out id); have HR9 := hid (HR8.out.keep0 hk9); have HX9 := hid (hk9.get HX8.out id)
  clear hk9
  have x0 : w9.cell? ⟨q, 0, none⟩ = some (.bool false) := cell_of HX9.out (by rfl)
  have x1 : w9.cell? ⟨q, 1, none⟩ = some (.int .u64 0) := cell_of HX9.out (by rfl)
  have x2 : w9.cell? ⟨q, 2, none⟩ = some (.int .u64 (n : Int)) := cell_of HX9.out (by rfl)
  go_wp2
  refine Plan.plQ_mk ?_ ?_
  · repeat (refine Plan.chk_st rfl ?_ ?_; focus (go_big_quiet_step (fail); exact wpQuiet_nil rfl))
    exact Plan.chk_end
  refine Plan.pl_ac rfl ?_
  go_wp2_with fail
  refine (w_sub_pp n 65535 (by decide) (by have := HNP.out; omega) (by decide) _).mono ?_
  rintro r w10 ⟨rfl, hk10⟩
  clear x0 x1 x2
  have HK10 := hid (HK9.out.trans hk10); have HB10 := hid (hk10.get HB9.out id); have HR10 := hid (HR9.out.keep0 hk10); have HX10 := hid (hk10.get HX9.out id)
  clear hk10
  have HSUB : Hid (∀ wz, Calls Tryz.prog 121 #[WV (normW true 0 (65535 - n)), WV ⟨false, 0, 1⟩] wz fun r w' => r = .returned (.tuple #[WV ⟨true, 0, 65536 - n⟩, .int .i64 0]) ∧ Keep (fun _ => False) wz w') := hid (by
    intro wz
    by_cases h0 : 65535 - n = 0
    · rw [h0, show normW true 0 0 = ⟨false, 0, 0⟩ from rfl]
      have h := w_sub_pp 0 1 (by decide) (by decide) (by decide) wz
      rwa [show normW true 0 (1 - 0) = ⟨true, 0, 65536 - n⟩ by rw [show 65536 - n = 1 - 0 by have := HNP.out; omega]; rfl] at h
    · rw [normW_neg _ (by omega)]
      have h := w_sub_nn (65535 - n) 1 (by omega) (by decide) (by have := HGN.out; omega) wz
      rwa [show 65535 - n + 1 = 65536 - n by have := HNP.out; omega] at h)
  generalize normW true 0 (65535 - n) = y at *
  have x0 := cell_of HX10.out (i := 0) (by rfl)
  have x1 := cell_of HX10.out (i := 1) (by rfl)
  have x2 := cell_of HX10.out (i := 2) (by rfl)
  have y0 := free_of HX10.out 0
  have y1 := free_of HX10.out 1
  have y2 := free_of HX10.out 2
  go_wp2
  refine Plan.plQ_mk Plan.chk_end ?_
  refine Plan.pl_st rfl ?_; go_big_quiet_step (fail); refine wpQuiet_nil ?_
  refine Plan.pl_st rfl ?_; go_big_quiet_step (fail); refine wpQuiet_nil ?_
  refine Plan.pl_st rfl ?_; go_big_quiet_step (fail); refine wpQuiet_nil ?_
  refine Plan.pl_ac rfl ?_
  go_wp2
  refine Plan.plQ_mk ?_ ?_
  · repeat (refine Plan.chk_st rfl ?_ ?_; focus (go_big_quiet_step (fail); exact wpQuiet_nil rfl))
    exact Plan.chk_end
  refine Plan.pl_end ?_
  clear x0 x1 x2 y0 y1 y2
  have hx11 := cells3 (.bool y.neg) (.int .u64 (y.hi : Int)) (.int .u64 (y.lo : Int)) HX10.out
  have hk11 := (((Keep.refl (fun g => g = q) w10).setCell (p := ⟨q, 0, none⟩) rfl (.bool y.neg)).setCell (p := ⟨q, 1, none⟩) rfl (.int .u64 (y.hi : Int))).setCell (p := ⟨q, 2, none⟩) rfl (.int .u64 (y.lo : Int))
  go_upto_region 8 with fail
  generalize ((w10.setCell ⟨q, 0, none⟩ (.bool y.neg)).setCell ⟨q, 1, none⟩ (.int .u64 (y.hi : Int))).setCell ⟨q, 2, none⟩ (.int .u64 (y.lo : Int)) = w11 at *
  have HK11 := hid (keep_new HK10.out hk11 (fun g hg => by have := HSB.out; have := HS1.out; have := HS4.out; omega)).drew; have HB11 := hid (hk11.drew.get HB10.out (by have := HS1.out; have := HS4.out; omega)); have HR11 := hid (hk11.drew.get HR10.out (by have := HS4.out; omega)); have HX11 : Hid (w11.drew.heap[q]? = _) := hid hx11
  clear hk11 hx11
  have x0 := cell_of HX11.out (i := 0) (by rfl)
  have x1 := cell_of HX11.out (i := 1) (by rfl)
  have x2 := cell_of HX11.out (i := 2) (by rfl)
  refine Plan.wp_region_pl [(false, 0, []), (true, 1, [0]), (true, 2, []), (false, 3, []), (false, 4, []), (false, 5, []), (true, 6, [5])] (by as_aux_lemma => kernel_rfl) (by as_aux_lemma => kernel_rfl) ?_
  refine Plan.pl_st rfl ?_; go_big_quiet_step (fail); refine wpQuiet_nil ?_
  refine Plan.pl_ac rfl ?_
  go_wp2_with fail
  refine (w_of 1 (by decide) _).mono ?_
  rintro r w12 ⟨rfl, hk12⟩
  clear x0 x1 x2
  have HK12 := hid (HK11.out.trans hk12); have HB12 := hid (hk12.get HB11.out id); have HR12 := hid (hk12.get HR11.out id); have HX12 := hid (hk12.get HX11.out id)
  clear hk12
  have x0 := cell_of HX12.out (i := 0) (by rfl)
  have x1 := cell_of HX12.out (i := 1) (by rfl)
  have x2 := cell_of HX12.out (i := 2) (by rfl)
  go_wp2
  refine Plan.plQ_mk ?_ ?_
  · repeat (refine Plan.chk_st rfl ?_ ?_; focus (go_big_quiet_step (fail); exact wpQuiet_nil rfl))
    exact Plan.chk_end
  refine Plan.pl_ac rfl ?_
  go_wp2_with fail
  refine (HSUB.out _).mono ?_
  rintro r w13 ⟨rfl, hk13⟩
  clear x0 x1 x2
  have HK13 := hid (HK12.out.trans hk13); have HB13 := hid (hk13.get HB12.out id); have HR13 := hid (hk13.get HR12.out id); have HX13 := hid (hk13.get HX12.out id)
  clear hk13
  have HM6 : Hid (65536 - n < 18446744073709551616) := hid (by have := HGN.out; omega)
  generalize 65536 - n = m at *
  have x0 := cell_of HX13.out (i := 0) (by rfl)
  have x1 := cell_of HX13.out (i := 1) (by rfl)
  have x2 := cell_of HX13.out (i := 2) (by rfl)
  have y0 := free_of HX13.out 0
  have y1 := free_of HX13.out 1
  have y2 := free_of HX13.out 2
  go_wp2
  refine Plan.plQ_mk Plan.chk_end ?_
  refine Plan.pl_st rfl ?_; go_big_quiet_step (fail); refine wpQuiet_nil ?_
  refine Plan.pl_st rfl ?_; go_big_quiet_step (fail); refine wpQuiet_nil ?_
  refine Plan.pl_st rfl ?_; go_big_quiet_step (fail); refine wpQuiet_nil ?_
  refine Plan.pl_ac rfl ?_
  go_wp2
  refine Plan.plQ_mk ?_ ?_
  · repeat (refine Plan.chk_st rfl ?_ ?_; focus (go_big_quiet_step (fail); exact wpQuiet_nil rfl))
    exact Plan.chk_end
  refine Plan.pl_end ?_
  clear x0 x1 x2 y0 y1 y2
  have hx14 := cells3 (.bool true) (.int .u64 ((0 : Nat) : Int)) (.int .u64 (m : Int)) HX13.out
  have hk14 := (((Keep.refl (fun g => g = q) w13).setCell (p := ⟨q, 0, none⟩) rfl (.bool true)).setCell (p := ⟨q, 1, none⟩) rfl (.int .u64 ((0 : Nat) : Int))).setCell (p := ⟨q, 2, none⟩) rfl (.int .u64 (m : Int))
  go_upto_region 9 with fail
  generalize ((w13.setCell ⟨q, 0, none⟩ (.bool true)).setCell ⟨q, 1, none⟩ (.int .u64 ((0 : Nat) : Int))).setCell ⟨q, 2, none⟩ (.int .u64 (m : Int)) = w14 at *
  have HK14 := hid (keep_new HK13.out hk14 (fun g hg => by have := HSB.out; have := HS1.out; have := HS4.out; omega)); have HB14 := hid (hk14.get HB13.out (by have := HS1.out; have := HS4.out; omega)); have HR14 : Hid (RdS w14 rb (s.extract 2 s.size) false) := hid (hk14.get HR13.out (by have := HS4.out; omega)); have HX14 := hid hx14
  clear hk14 hx14
  go_wp2_with fail
  refine (rd_done rb _ false _ HR14.out).mono ?_
  rintro r w_ ⟨rfl, rfl⟩
  rw [HDN.out]
  have x0 : w14.cell? ⟨q, 0, none⟩ = some (.bool true) := cell_of HX14.out (by rfl)
  have x1 : w14.cell? ⟨q, 1, none⟩ = some (.int .u64 0) := cell_of HX14.out (by rfl)
  have x2 : w14.cell? ⟨q, 2, none⟩ = some (.int .u64 (m : Int)) := cell_of HX14.out (by rfl)
  go_wp2_with fail
  refine (f_fits k ⟨true, 0, m⟩ ⟨(by have := HM6.out; show (0 : Nat) < 18446744073709551616; omega), (by have := HM6.out; show (m : Nat) < 18446744073709551616; omega)⟩ _).mono ?_
  rintro r w20 ⟨rfl, hk20⟩
  have HK20 := hid (HK14.out.trans hk20); have HB20 := hid (hk20.get HB14.out id); have HR20 := hid (HR14.out.keep0 hk20); have HX20 := hid (hk20.get HX14.out id)
  clear hk20
  clear x0 x1 x2
  have b0 := free_of HB20.out 0
  have b1 := free_of HB20.out 1
  have b2 := free_of HB20.out 2
  have bc0 := cell_of HB20.out (i := 0) (by rfl)
  have bc1 := cell_of HB20.out (i := 1) (by rfl)
  have bc2 := cell_of HB20.out (i := 2) (by rfl)
  have x0 : w20.cell? ⟨q, 0, none⟩ = some (.bool true) := cell_of HX20.out (by rfl)
  have x1 : w20.cell? ⟨q, 1, none⟩ = some (.int .u64 0) := cell_of HX20.out (by rfl)
  have x2 : w20.cell? ⟨q, 2, none⟩ = some (.int .u64 (m : Int)) := cell_of HX20.out (by rfl)
  have HGR : Hid (getR k s = .tuple #[WV (if fitsB k ⟨true, 0, m⟩ = true then ⟨true, 0, m⟩ else ⟨false, 0, 0⟩), iV (if fitsB k ⟨true, 0, m⟩ = true then 0 else 4)]) := hid (by unfold getR; rw [HV.out])
  cases hft : fitsB k ⟨true, 0, m⟩
  · have G : Hid (getR k s = .tuple #[WV ⟨false, 0, 0⟩, iV 4]) := hid (by rw [HGR.out, hft]; rfl)
    clear hft HGR
    go_wp2
    (try simp only [Exit.inBlock, Exit.then])
    refine bodyPost_ret (results_ct rfl _ rfl (run_loadVar_row _ sb _ 86 _ _ _ (cells3 (.bool false) (.int .u64 0) (.int .u64 0) HB20.out) Tryz.underlying86 rfl (by kernel_rfl))) rfl ?_
    exact ⟨by rw [G.out]; rfl, ((HK20.out.setCell_new (p := ⟨sb, 0, none⟩) (by have := HSB.out; show _ ≤ sb; omega) _).setCell_new (p := ⟨sb, 1, none⟩) (by have := HSB.out; show _ ≤ sb; omega) _).setCell_new (p := ⟨sb, 2, none⟩) (by have := HSB.out; show _ ≤ sb; omega) _⟩
  · have G : Hid (getR k s = .tuple #[WV ⟨true, 0, m⟩, iV 0]) := hid (by rw [HGR.out, hft]; rfl)
    clear hft HGR
    go_wp2
    (try simp only [Exit.inBlock, Exit.then])
    refine bodyPost_ret (results_ct rfl _ rfl (run_loadVar_row _ sb _ 86 _ _ _ (cells3 (.bool true) (.int .u64 0) (.int .u64 (m : Int)) HB20.out) Tryz.underlying86 rfl (by kernel_rfl))) rfl ?_
    exact ⟨by rw [G.out]; rfl, ((HK20.out.setCell_new (p := ⟨sb, 0, none⟩) (by have := HSB.out; show _ ≤ sb; omega) _).setCell_new (p := ⟨sb, 1, none⟩) (by have := HSB.out; show _ ≤ sb; omega) _).setCell_new (p := ⟨sb, 2, none⟩) (by have := HSB.out; show _ ≤ sb; omega) _⟩

set_option maxRecDepth 20000 in
set_option maxHeartbeats 8000000 in
theorem f_get4 (k : Int) (hk : kindB k = true) (hz : szN k = 4) (s : ByteArray) (hs : s.size = 4) (w : World) : Calls Tryz.prog 81 #[.int .i64 k, .string s] w fun r w' => r = .returned (getR k s) ∧ Keep (fun _ => False) w w' := by
  have hkr : 1 ≤ k ∧ k ≤ 10 := of_decide_eq_true hk
  have HKR := hid hkr; have HKD := hid hk
  have HSZ : Hid (sizeK k = (4 : Int)) := hid (by rw [sz_cast, hz]; rfl)
  have HS := hid hs
  have HNP : Hid (firstN s 4 < 4294967296) := hid (by
    have h1 := leN_lt (s.data.toList.take 4)
    have h2 : (s.data.toList.take 4).length ≤ 4 := by rw [List.length_take]; omega
    exact Nat.lt_of_lt_of_le h1 (pow_le h2))
  have HDN : Hid ((!false && decide ((s.extract 4 s.size).size = 0)) = true) := hid (by rw [ByteArray.size_extract, hs]; rfl)
  have HGV : Hid (getV k s = if signK k = true ∧ greatN k < firstN s 4 then ⟨true, 0, 4294967296 - firstN s 4⟩ else ⟨false, 0, firstN s 4⟩) := hid (by unfold getV; rw [hz])
  obtain ⟨n, hn⟩ : ∃ n, firstN s 4 = n := ⟨_, rfl⟩
  rw [hn] at HNP HGV
  have HN := hid hn
  clear hk hkr hz hs hn
  obtain ⟨w0, hw0, hb0, hs0, hk0⟩ := box1 w Z3 86
  have HB0 := hid hb0; have HK0 := hid hk0; have HSW := hid hs0
  clear hb0 hk0 hs0
  go_enter Tryz.func81, Tryz.ntmps81
  go_upto_region 1 with fail
  rw [← hw0]
  clear hw0
  generalize hsb : w.heap.size = sb at *
  have HSB := hid hsb
  clear hsb
  go_wp2_with fail
  refine (is_kind k _).mono ?_
  rintro r w_ ⟨rfl, rfl⟩
  rw [HKD.out]
  go_wp2_with fail
  refine (size_of k _).mono ?_
  rintro r w1 ⟨rfl, hk1⟩
  rw [HSZ.out]
  have HK1 := hid (HK0.out.trans hk1); have HB1 := hid (hk1.get HB0.out id)
  have HS1 : Hid (sb < w1.heap.size) := hid (by have := hk1.size; have := HSW.out; omega)
  clear hk1
  go_wp2_with fail
  refine (rd_read s _).mono ?_
  rintro r w2 ⟨rfl, hr2, hk2⟩
  have HK2 := hid (HK1.out.trans hk2); have HB2 := hid (hk2.get HB1.out id); have HR2 := hid hr2
  have HS2 := hid (lt_of_heap hr2)
  clear hr2 hk2
  generalize w1.heap.size = rb at *
  go_wp2_with fail
  refine (rd_num_yes rb s 4 (by unfold WideOk; omega) _ (by have := HS.out; omega) (by have := HS.out; omega) HR2.out).mono ?_
  rintro r w3 ⟨rfl, hr3, hk3⟩
  rw [HN.out]
  have HK3 := hid (keep_new HK2.out hk3 (fun g hg => by have := HSB.out; have := HS1.out; omega)); have HB3 := hid (hk3.get HB2.out (by have := HS1.out; omega)); have HR3 := hid hr3
  have HS3 : Hid (rb < w3.heap.size) := hid (lt_of_heap hr3)
  clear hr3 hk3
  go_wp2_with fail
  refine (w_ofword n _).mono ?_
  rintro r w4 ⟨rfl, hk4⟩
  obtain ⟨w5, hw5, hb5, hs5, hk5⟩ := box1 w4 #[.bool false, .int .u64 0, .int .u64 (n : Int)] 86
  have HK5 := hid (((HK3.out.trans hk4).trans hk5).drew); have HB5 := hid ((hk4.trans hk5).drew.get HB3.out id); have HR5 := hid (HR3.out.keep0 (hk4.trans hk5).drew)
  have HX5 : Hid (w5.drew.heap[w4.heap.size]? = _) := hid hb5
  have HS4 : Hid (rb < w4.heap.size) := hid (by have := hk4.size; have := HS3.out; omega)
  clear hk4 hk5 hb5 hs5
  go_upto_region 6 with fail
  rw [← hw5]
  clear hw5
  generalize w4.heap.size = q at *
  have x0 : w5.drew.cell? ⟨q, 0, none⟩ = some (.bool false) := cell_of HX5.out (by rfl)
  have x1 : w5.drew.cell? ⟨q, 1, none⟩ = some (.int .u64 0) := cell_of HX5.out (by rfl)
  have x2 : w5.drew.cell? ⟨q, 2, none⟩ = some (.int .u64 (n : Int)) := cell_of HX5.out (by rfl)
  refine Plan.wp_region_pl [(false, 0, []), (true, 1, []), (false, 2, []), (false, 3, []), (false, 4, []), (false, 5, []), (true, 6, [4]), (true, 7, []), (false, 8, []), (false, 9, [])] (by as_aux_lemma => kernel_rfl) (by as_aux_lemma => kernel_rfl) ?_
  refine Plan.pl_st rfl ?_; go_big_quiet_step (fail); refine wpQuiet_nil ?_
  refine Plan.pl_ac rfl ?_
  go_wp2_with fail
  refine (kind_of k _).mono ?_
  rintro r w6 ⟨nm, rfl, hk6⟩
  have hfd := field_sign nm (sizeK k) (signK k) w6
  clear x0 x1 x2
  have HK6 := hid (HK5.out.trans hk6); have HB6 := hid (hk6.get HB5.out id); have HR6 := hid (HR5.out.keep0 hk6); have HX6 := hid (hk6.get HX5.out id)
  clear hk6
  have x0 : w6.cell? ⟨q, 0, none⟩ = some (.bool false) := cell_of HX6.out (by rfl)
  have x1 : w6.cell? ⟨q, 1, none⟩ = some (.int .u64 0) := cell_of HX6.out (by rfl)
  have x2 : w6.cell? ⟨q, 2, none⟩ = some (.int .u64 (n : Int)) := cell_of HX6.out (by rfl)
  go_wp2
  refine Plan.plQ_mk Plan.chk_end ?_
  cases hsg : signK k
  · rw [hsg] at hfd
    have HV : Hid (getV k s = ⟨false, 0, n⟩) := hid (by rw [HGV.out, if_neg (by rw [hsg]; simp)])
    clear hsg
    refine Plan.pl_st rfl ?_; go_big_quiet_step (fail); refine wpQuiet_nil ?_
    refine Plan.pl_st rfl ?_; go_big_quiet_step (fail); refine wpQuiet_nil ?_
    refine Plan.pl_st rfl ?_; go_big_quiet_step (fail); refine wpQuiet_nil ?_
    refine Plan.pl_st rfl ?_; go_big_quiet_step (fail); refine wpQuiet_nil ?_
    refine Plan.pl_ac rfl ?_
    go_wp2
    refine Plan.plQ_mk ?_ ?_
    · repeat (refine Plan.chk_st rfl ?_ ?_; focus (go_big_quiet_step (fail); exact wpQuiet_nil rfl))
      exact Plan.chk_end
    refine Plan.pl_ac rfl ?_
    go_wp2
    refine Plan.plQ_mk Plan.chk_end ?_
    refine Plan.pl_st rfl ?_; go_big_quiet_step (fail); refine wpQuiet_nil ?_
    refine Plan.pl_st rfl ?_; go_big_quiet_step (fail); refine wpQuiet_nil ?_
    refine Plan.pl_end ?_
    clear hfd x0 x1 x2
    go_wp2_with fail
    refine (rd_done rb _ false _ HR6.out).mono ?_
    rintro r w_ ⟨rfl, rfl⟩
    rw [HDN.out]
    have x0 : w6.cell? ⟨q, 0, none⟩ = some (.bool false) := cell_of HX6.out (by rfl)
    have x1 : w6.cell? ⟨q, 1, none⟩ = some (.int .u64 0) := cell_of HX6.out (by rfl)
    have x2 : w6.cell? ⟨q, 2, none⟩ = some (.int .u64 (n : Int)) := cell_of HX6.out (by rfl)
    go_wp2_with fail
    refine (f_fits k ⟨false, 0, n⟩ ⟨(by have := HNP.out; show (0 : Nat) < 18446744073709551616; omega), (by have := HNP.out; show (n : Nat) < 18446744073709551616; omega)⟩ _).mono ?_
    rintro r w20 ⟨rfl, hk20⟩
    have HK20 := hid (HK6.out.trans hk20); have HB20 := hid (hk20.get HB6.out id); have HR20 := hid (HR6.out.keep0 hk20); have HX20 := hid (hk20.get HX6.out id)
    clear hk20
    clear x0 x1 x2
    have b0 := free_of HB20.out 0
    have b1 := free_of HB20.out 1
    have b2 := free_of HB20.out 2
    have bc0 := cell_of HB20.out (i := 0) (by rfl)
    have bc1 := cell_of HB20.out (i := 1) (by rfl)
    have bc2 := cell_of HB20.out (i := 2) (by rfl)
    have x0 : w20.cell? ⟨q, 0, none⟩ = some (.bool false) := cell_of HX20.out (by rfl)
    have x1 : w20.cell? ⟨q, 1, none⟩ = some (.int .u64 0) := cell_of HX20.out (by rfl)
    have x2 : w20.cell? ⟨q, 2, none⟩ = some (.int .u64 (n : Int)) := cell_of HX20.out (by rfl)
    have HGR : Hid (getR k s = .tuple #[WV (if fitsB k ⟨false, 0, n⟩ = true then ⟨false, 0, n⟩ else ⟨false, 0, 0⟩), iV (if fitsB k ⟨false, 0, n⟩ = true then 0 else 4)]) := hid (by unfold getR; rw [HV.out])
    cases hft : fitsB k ⟨false, 0, n⟩
    · have G : Hid (getR k s = .tuple #[WV ⟨false, 0, 0⟩, iV 4]) := hid (by rw [HGR.out, hft]; rfl)
      clear hft HGR
      go_wp2
      (try simp only [Exit.inBlock, Exit.then])
      refine bodyPost_ret (results_ct rfl _ rfl (run_loadVar_row _ sb _ 86 _ _ _ (cells3 (.bool false) (.int .u64 0) (.int .u64 0) HB20.out) Tryz.underlying86 rfl (by kernel_rfl))) rfl ?_
      exact ⟨by rw [G.out]; rfl, ((HK20.out.setCell_new (p := ⟨sb, 0, none⟩) (by have := HSB.out; show _ ≤ sb; omega) _).setCell_new (p := ⟨sb, 1, none⟩) (by have := HSB.out; show _ ≤ sb; omega) _).setCell_new (p := ⟨sb, 2, none⟩) (by have := HSB.out; show _ ≤ sb; omega) _⟩
    · have G : Hid (getR k s = .tuple #[WV ⟨false, 0, n⟩, iV 0]) := hid (by rw [HGR.out, hft]; rfl)
      clear hft HGR
      go_wp2
      (try simp only [Exit.inBlock, Exit.then])
      refine bodyPost_ret (results_ct rfl _ rfl (run_loadVar_row _ sb _ 86 _ _ _ (cells3 (.bool false) (.int .u64 0) (.int .u64 (n : Int)) HB20.out) Tryz.underlying86 rfl (by kernel_rfl))) rfl ?_
      exact ⟨by rw [G.out]; rfl, ((HK20.out.setCell_new (p := ⟨sb, 0, none⟩) (by have := HSB.out; show _ ≤ sb; omega) _).setCell_new (p := ⟨sb, 1, none⟩) (by have := HSB.out; show _ ≤ sb; omega) _).setCell_new (p := ⟨sb, 2, none⟩) (by have := HSB.out; show _ ≤ sb; omega) _⟩
  rw [hsg] at hfd
  refine Plan.pl_st rfl ?_; go_big_quiet_step (fail); refine wpQuiet_nil ?_
  refine Plan.pl_st rfl ?_; go_big_quiet_step (fail); refine wpQuiet_nil ?_
  refine Plan.pl_st rfl ?_; go_big_quiet_step (fail); refine wpQuiet_nil ?_
  refine Plan.pl_st rfl ?_; go_big_quiet_step (fail); refine wpQuiet_nil ?_
  refine Plan.pl_ac rfl ?_
  go_wp2_with fail
  refine (f_great k HKR.out.1 HKR.out.2 _).mono ?_
  rintro r w7 ⟨rfl, hk7⟩
  clear x0 x1 x2 hfd
  have HK7 := hid (HK6.out.trans hk7); have HB7 := hid (hk7.get HB6.out id); have HR7 := hid (HR6.out.keep0 hk7); have HX7 := hid (hk7.get HX6.out id)
  clear hk7
  have x0 : w7.cell? ⟨q, 0, none⟩ = some (.bool false) := cell_of HX7.out (by rfl)
  have x1 : w7.cell? ⟨q, 1, none⟩ = some (.int .u64 0) := cell_of HX7.out (by rfl)
  have x2 : w7.cell? ⟨q, 2, none⟩ = some (.int .u64 (n : Int)) := cell_of HX7.out (by rfl)
  go_wp2
  refine Plan.plQ_mk ?_ ?_
  · repeat (refine Plan.chk_st rfl ?_ ?_; focus (go_big_quiet_step (fail); exact wpQuiet_nil rfl))
    exact Plan.chk_end
  have HGK := hid (greatN_lt k)
  have HC : Hid (cmpW ⟨false, 0, n⟩ ⟨false, 0, greatN k⟩ = cmpI (n : Int) (greatN k : Int)) := hid (cmp_pos _ _)
  rw [hsg] at HGV
  clear hsg
  generalize greatN k = g at *
  refine Plan.pl_ac rfl ?_
  go_wp2_with fail
  refine (w_cmp ⟨false, 0, n⟩ ⟨false, 0, g⟩ ⟨(by decide : (0 : Nat) < 18446744073709551616), (by have := HNP.out; omega : n < 18446744073709551616)⟩ ⟨(by decide : (0 : Nat) < 18446744073709551616), HGK.out⟩ _).mono ?_
  rintro r w8 ⟨rfl, hk8⟩
  clear x0 x1 x2
  have HK8 := hid (HK7.out.trans hk8); have HB8 := hid (hk8.get HB7.out id); have HR8 := hid (HR7.out.keep0 hk8); have HX8 := hid (hk8.get HX7.out id)
  clear hk8
  have x0 : w8.cell? ⟨q, 0, none⟩ = some (.bool false) := cell_of HX8.out (by rfl)
  have x1 : w8.cell? ⟨q, 1, none⟩ = some (.int .u64 0) := cell_of HX8.out (by rfl)
  have x2 : w8.cell? ⟨q, 2, none⟩ = some (.int .u64 (n : Int)) := cell_of HX8.out (by rfl)
  by_cases hgn : g < n
  rotate_left
  · have HV : Hid (getV k s = ⟨false, 0, n⟩) := hid (by rw [HGV.out, if_neg (by intro h; exact hgn h.2)])
    obtain ⟨c, hc⟩ : ∃ c, cmpW ⟨false, 0, n⟩ ⟨false, 0, g⟩ = c := ⟨_, rfl⟩
    have hdc : decide (0 < c) = false := decide_eq_false (by rw [← hc, HC.out]; unfold cmpI; split; omega; split <;> omega)
    rw [hc]
    clear hc hgn
    go_wp2
    refine Plan.plQ_mk Plan.chk_end ?_
    refine Plan.pl_st rfl ?_; go_big_quiet_step (fail); refine wpQuiet_nil ?_
    refine Plan.pl_st rfl ?_; go_big_quiet_step (fail); refine wpQuiet_nil ?_
    refine Plan.pl_end ?_
    clear x0 x1 x2 hdc
    go_wp2_with fail
    refine (rd_done rb _ false _ HR8.out).mono ?_
    rintro r w_ ⟨rfl, rfl⟩
    rw [HDN.out]
    have x0 : w8.cell? ⟨q, 0, none⟩ = some (.bool false) := cell_of HX8.out (by rfl)
    have x1 : w8.cell? ⟨q, 1, none⟩ = some (.int .u64 0) := cell_of HX8.out (by rfl)
    have x2 : w8.cell? ⟨q, 2, none⟩ = some (.int .u64 (n : Int)) := cell_of HX8.out (by rfl)
    go_wp2_with fail
    refine (f_fits k ⟨false, 0, n⟩ ⟨(by have := HNP.out; show (0 : Nat) < 18446744073709551616; omega), (by have := HNP.out; show (n : Nat) < 18446744073709551616; omega)⟩ _).mono ?_
    rintro r w20 ⟨rfl, hk20⟩
    have HK20 := hid (HK8.out.trans hk20); have HB20 := hid (hk20.get HB8.out id); have HR20 := hid (HR8.out.keep0 hk20); have HX20 := hid (hk20.get HX8.out id)
    clear hk20
    clear x0 x1 x2
    have b0 := free_of HB20.out 0
    have b1 := free_of HB20.out 1
    have b2 := free_of HB20.out 2
    have bc0 := cell_of HB20.out (i := 0) (by rfl)
    have bc1 := cell_of HB20.out (i := 1) (by rfl)
    have bc2 := cell_of HB20.out (i := 2) (by rfl)
    have x0 : w20.cell? ⟨q, 0, none⟩ = some (.bool false) := cell_of HX20.out (by rfl)
    have x1 : w20.cell? ⟨q, 1, none⟩ = some (.int .u64 0) := cell_of HX20.out (by rfl)
    have x2 : w20.cell? ⟨q, 2, none⟩ = some (.int .u64 (n : Int)) := cell_of HX20.out (by rfl)
    have HGR : Hid (getR k s = .tuple #[WV (if fitsB k ⟨false, 0, n⟩ = true then ⟨false, 0, n⟩ else ⟨false, 0, 0⟩), iV (if fitsB k ⟨false, 0, n⟩ = true then 0 else 4)]) := hid (by unfold getR; rw [HV.out])
    cases hft : fitsB k ⟨false, 0, n⟩
    · have G : Hid (getR k s = .tuple #[WV ⟨false, 0, 0⟩, iV 4]) := hid (by rw [HGR.out, hft]; rfl)
      clear hft HGR
      go_wp2
      (try simp only [Exit.inBlock, Exit.then])
      refine bodyPost_ret (results_ct rfl _ rfl (run_loadVar_row _ sb _ 86 _ _ _ (cells3 (.bool false) (.int .u64 0) (.int .u64 0) HB20.out) Tryz.underlying86 rfl (by kernel_rfl))) rfl ?_
      exact ⟨by rw [G.out]; rfl, ((HK20.out.setCell_new (p := ⟨sb, 0, none⟩) (by have := HSB.out; show _ ≤ sb; omega) _).setCell_new (p := ⟨sb, 1, none⟩) (by have := HSB.out; show _ ≤ sb; omega) _).setCell_new (p := ⟨sb, 2, none⟩) (by have := HSB.out; show _ ≤ sb; omega) _⟩
    · have G : Hid (getR k s = .tuple #[WV ⟨false, 0, n⟩, iV 0]) := hid (by rw [HGR.out, hft]; rfl)
      clear hft HGR
      go_wp2
      (try simp only [Exit.inBlock, Exit.then])
      refine bodyPost_ret (results_ct rfl _ rfl (run_loadVar_row _ sb _ 86 _ _ _ (cells3 (.bool false) (.int .u64 0) (.int .u64 (n : Int)) HB20.out) Tryz.underlying86 rfl (by kernel_rfl))) rfl ?_
      exact ⟨by rw [G.out]; rfl, ((HK20.out.setCell_new (p := ⟨sb, 0, none⟩) (by have := HSB.out; show _ ≤ sb; omega) _).setCell_new (p := ⟨sb, 1, none⟩) (by have := HSB.out; show _ ≤ sb; omega) _).setCell_new (p := ⟨sb, 2, none⟩) (by have := HSB.out; show _ ≤ sb; omega) _⟩
  have HV : Hid (getV k s = ⟨true, 0, 4294967296 - n⟩) := hid (by rw [HGV.out, if_pos (by simpa using hgn)])
  have hc : cmpW ⟨false, 0, n⟩ ⟨false, 0, g⟩ = 1 := by rw [HC.out]; unfold cmpI; rw [if_pos (by omega)]
  rw [hc]
  have HGN := hid hgn
  clear hc hgn
  go_wp2
  refine Plan.plQ_mk Plan.chk_end ?_
  refine Plan.pl_st rfl ?_; go_big_quiet_step (fail); refine wpQuiet_nil ?_
  refine Plan.pl_st rfl ?_; go_big_quiet_step (fail); refine wpQuiet_nil ?_
  refine Plan.pl_end ?_
  clear x0 x1 x2
  have x0 : w8.drew.cell? ⟨q, 0, none⟩ = some (.bool false) := cell_of HX8.out (by rfl)
  have x1 : w8.drew.cell? ⟨q, 1, none⟩ = some (.int .u64 0) := cell_of HX8.out (by rfl)
  have x2 : w8.drew.cell? ⟨q, 2, none⟩ = some (.int .u64 (n : Int)) := cell_of HX8.out (by rfl)
  go_upto_region 7 with fail
  refine Plan.wp_region_pl [(false, 0, []), (false, 1, []), (false, 2, []), (true, 3, [0]), (true, 4, [0]), (true, 5, []), (false, 6, []), (false, 7, []), (false, 8, []), (true, 9, [8])] (by as_aux_lemma => kernel_rfl) (by as_aux_lemma => kernel_rfl) ?_
  refine Plan.pl_st rfl ?_; go_big_quiet_step (fail); refine wpQuiet_nil ?_
  refine Plan.pl_st rfl ?_; go_big_quiet_step (fail); refine wpQuiet_nil ?_
  refine Plan.pl_st rfl ?_; go_big_quiet_step (fail); refine wpQuiet_nil ?_
  refine Plan.pl_ac rfl ?_
  go_wp2_with fail
  refine (f_power 32 (by omega) _).mono ?_
  rintro r w_ ⟨rfl, rfl⟩
  go_wp2
  refine Plan.plQ_mk ?_ ?_
  · repeat (refine Plan.chk_st rfl ?_ ?_; focus (go_big_quiet_step (fail); exact wpQuiet_nil rfl))
    exact Plan.chk_end
  refine Plan.pl_ac rfl ?_
  go_wp2_with fail
  refine (w_ofword 4294967295 _).mono ?_
  rintro r w9 ⟨rfl, hk9⟩
  have hk9 := (Keep.refl _ w8).drew.trans hk9
  clear x0 x1 x2
  have HK9 := hid (HK8.out.trans hk9); have HB9 := hid (hk9.get HB8.out id); have HR9 := hid (HR8.out.keep0 hk9); have HX9 := hid (hk9.get HX8.out id)
  clear hk9
  have x0 : w9.cell? ⟨q, 0, none⟩ = some (.bool false) := cell_of HX9.out (by rfl)
  have x1 : w9.cell? ⟨q, 1, none⟩ = some (.int .u64 0) := cell_of HX9.out (by rfl)
  have x2 : w9.cell? ⟨q, 2, none⟩ = some (.int .u64 (n : Int)) := cell_of HX9.out (by rfl)
  go_wp2
  refine Plan.plQ_mk ?_ ?_
  · repeat (refine Plan.chk_st rfl ?_ ?_; focus (go_big_quiet_step (fail); exact wpQuiet_nil rfl))
    exact Plan.chk_end
  refine Plan.pl_ac rfl ?_
  go_wp2_with fail
  refine (w_sub_pp n 4294967295 (by decide) (by have := HNP.out; omega) (by decide) _).mono ?_
  rintro r w10 ⟨rfl, hk10⟩
  clear x0 x1 x2
  have HK10 := hid (HK9.out.trans hk10); have HB10 := hid (hk10.get HB9.out id); have HR10 := hid (HR9.out.keep0 hk10); have HX10 := hid (hk10.get HX9.out id)
  clear hk10
  have HSUB : Hid (∀ wz, Calls Tryz.prog 121 #[WV (normW true 0 (4294967295 - n)), WV ⟨false, 0, 1⟩] wz fun r w' => r = .returned (.tuple #[WV ⟨true, 0, 4294967296 - n⟩, .int .i64 0]) ∧ Keep (fun _ => False) wz w') := hid (by
    intro wz
    by_cases h0 : 4294967295 - n = 0
    · rw [h0, show normW true 0 0 = ⟨false, 0, 0⟩ from rfl]
      have h := w_sub_pp 0 1 (by decide) (by decide) (by decide) wz
      rwa [show normW true 0 (1 - 0) = ⟨true, 0, 4294967296 - n⟩ by rw [show 4294967296 - n = 1 - 0 by have := HNP.out; omega]; rfl] at h
    · rw [normW_neg _ (by omega)]
      have h := w_sub_nn (4294967295 - n) 1 (by omega) (by decide) (by have := HGN.out; omega) wz
      rwa [show 4294967295 - n + 1 = 4294967296 - n by have := HNP.out; omega] at h)
  generalize normW true 0 (4294967295 - n) = y at *
  have x0 := cell_of HX10.out (i := 0) (by rfl)
  have x1 := cell_of HX10.out (i := 1) (by rfl)
  have x2 := cell_of HX10.out (i := 2) (by rfl)
  have y0 := free_of HX10.out 0
  have y1 := free_of HX10.out 1
  have y2 := free_of HX10.out 2
  go_wp2
  refine Plan.plQ_mk Plan.chk_end ?_
  refine Plan.pl_st rfl ?_; go_big_quiet_step (fail); refine wpQuiet_nil ?_
  refine Plan.pl_st rfl ?_; go_big_quiet_step (fail); refine wpQuiet_nil ?_
  refine Plan.pl_st rfl ?_; go_big_quiet_step (fail); refine wpQuiet_nil ?_
  refine Plan.pl_ac rfl ?_
  go_wp2
  refine Plan.plQ_mk ?_ ?_
  · repeat (refine Plan.chk_st rfl ?_ ?_; focus (go_big_quiet_step (fail); exact wpQuiet_nil rfl))
    exact Plan.chk_end
  refine Plan.pl_end ?_
  clear x0 x1 x2 y0 y1 y2
  have hx11 := cells3 (.bool y.neg) (.int .u64 (y.hi : Int)) (.int .u64 (y.lo : Int)) HX10.out
  have hk11 := (((Keep.refl (fun g => g = q) w10).setCell (p := ⟨q, 0, none⟩) rfl (.bool y.neg)).setCell (p := ⟨q, 1, none⟩) rfl (.int .u64 (y.hi : Int))).setCell (p := ⟨q, 2, none⟩) rfl (.int .u64 (y.lo : Int))
  go_upto_region 8 with fail
  generalize ((w10.setCell ⟨q, 0, none⟩ (.bool y.neg)).setCell ⟨q, 1, none⟩ (.int .u64 (y.hi : Int))).setCell ⟨q, 2, none⟩ (.int .u64 (y.lo : Int)) = w11 at *
  have HK11 := hid (keep_new HK10.out hk11 (fun g hg => by have := HSB.out; have := HS1.out; have := HS4.out; omega)).drew; have HB11 := hid (hk11.drew.get HB10.out (by have := HS1.out; have := HS4.out; omega)); have HR11 := hid (hk11.drew.get HR10.out (by have := HS4.out; omega)); have HX11 : Hid (w11.drew.heap[q]? = _) := hid hx11
  clear hk11 hx11
  have x0 := cell_of HX11.out (i := 0) (by rfl)
  have x1 := cell_of HX11.out (i := 1) (by rfl)
  have x2 := cell_of HX11.out (i := 2) (by rfl)
  refine Plan.wp_region_pl [(false, 0, []), (true, 1, [0]), (true, 2, []), (false, 3, []), (false, 4, []), (false, 5, []), (true, 6, [5])] (by as_aux_lemma => kernel_rfl) (by as_aux_lemma => kernel_rfl) ?_
  refine Plan.pl_st rfl ?_; go_big_quiet_step (fail); refine wpQuiet_nil ?_
  refine Plan.pl_ac rfl ?_
  go_wp2_with fail
  refine (w_of 1 (by decide) _).mono ?_
  rintro r w12 ⟨rfl, hk12⟩
  clear x0 x1 x2
  have HK12 := hid (HK11.out.trans hk12); have HB12 := hid (hk12.get HB11.out id); have HR12 := hid (hk12.get HR11.out id); have HX12 := hid (hk12.get HX11.out id)
  clear hk12
  have x0 := cell_of HX12.out (i := 0) (by rfl)
  have x1 := cell_of HX12.out (i := 1) (by rfl)
  have x2 := cell_of HX12.out (i := 2) (by rfl)
  go_wp2
  refine Plan.plQ_mk ?_ ?_
  · repeat (refine Plan.chk_st rfl ?_ ?_; focus (go_big_quiet_step (fail); exact wpQuiet_nil rfl))
    exact Plan.chk_end
  refine Plan.pl_ac rfl ?_
  go_wp2_with fail
  refine (HSUB.out _).mono ?_
  rintro r w13 ⟨rfl, hk13⟩
  clear x0 x1 x2
  have HK13 := hid (HK12.out.trans hk13); have HB13 := hid (hk13.get HB12.out id); have HR13 := hid (hk13.get HR12.out id); have HX13 := hid (hk13.get HX12.out id)
  clear hk13
  have HM6 : Hid (4294967296 - n < 18446744073709551616) := hid (by have := HGN.out; omega)
  generalize 4294967296 - n = m at *
  have x0 := cell_of HX13.out (i := 0) (by rfl)
  have x1 := cell_of HX13.out (i := 1) (by rfl)
  have x2 := cell_of HX13.out (i := 2) (by rfl)
  have y0 := free_of HX13.out 0
  have y1 := free_of HX13.out 1
  have y2 := free_of HX13.out 2
  go_wp2
  refine Plan.plQ_mk Plan.chk_end ?_
  refine Plan.pl_st rfl ?_; go_big_quiet_step (fail); refine wpQuiet_nil ?_
  refine Plan.pl_st rfl ?_; go_big_quiet_step (fail); refine wpQuiet_nil ?_
  refine Plan.pl_st rfl ?_; go_big_quiet_step (fail); refine wpQuiet_nil ?_
  refine Plan.pl_ac rfl ?_
  go_wp2
  refine Plan.plQ_mk ?_ ?_
  · repeat (refine Plan.chk_st rfl ?_ ?_; focus (go_big_quiet_step (fail); exact wpQuiet_nil rfl))
    exact Plan.chk_end
  refine Plan.pl_end ?_
  clear x0 x1 x2 y0 y1 y2
  have hx14 := cells3 (.bool true) (.int .u64 ((0 : Nat) : Int)) (.int .u64 (m : Int)) HX13.out
  have hk14 := (((Keep.refl (fun g => g = q) w13).setCell (p := ⟨q, 0, none⟩) rfl (.bool true)).setCell (p := ⟨q, 1, none⟩) rfl (.int .u64 ((0 : Nat) : Int))).setCell (p := ⟨q, 2, none⟩) rfl (.int .u64 (m : Int))
  go_upto_region 9 with fail
  generalize ((w13.setCell ⟨q, 0, none⟩ (.bool true)).setCell ⟨q, 1, none⟩ (.int .u64 ((0 : Nat) : Int))).setCell ⟨q, 2, none⟩ (.int .u64 (m : Int)) = w14 at *
  have HK14 := hid (keep_new HK13.out hk14 (fun g hg => by have := HSB.out; have := HS1.out; have := HS4.out; omega)); have HB14 := hid (hk14.get HB13.out (by have := HS1.out; have := HS4.out; omega)); have HR14 : Hid (RdS w14 rb (s.extract 4 s.size) false) := hid (hk14.get HR13.out (by have := HS4.out; omega)); have HX14 := hid hx14
  clear hk14 hx14
  go_wp2_with fail
  refine (rd_done rb _ false _ HR14.out).mono ?_
  rintro r w_ ⟨rfl, rfl⟩
  rw [HDN.out]
  have x0 : w14.cell? ⟨q, 0, none⟩ = some (.bool true) := cell_of HX14.out (by rfl)
  have x1 : w14.cell? ⟨q, 1, none⟩ = some (.int .u64 0) := cell_of HX14.out (by rfl)
  have x2 : w14.cell? ⟨q, 2, none⟩ = some (.int .u64 (m : Int)) := cell_of HX14.out (by rfl)
  go_wp2_with fail
  refine (f_fits k ⟨true, 0, m⟩ ⟨(by have := HM6.out; show (0 : Nat) < 18446744073709551616; omega), (by have := HM6.out; show (m : Nat) < 18446744073709551616; omega)⟩ _).mono ?_
  rintro r w20 ⟨rfl, hk20⟩
  have HK20 := hid (HK14.out.trans hk20); have HB20 := hid (hk20.get HB14.out id); have HR20 := hid (HR14.out.keep0 hk20); have HX20 := hid (hk20.get HX14.out id)
  clear hk20
  clear x0 x1 x2
  have b0 := free_of HB20.out 0
  have b1 := free_of HB20.out 1
  have b2 := free_of HB20.out 2
  have bc0 := cell_of HB20.out (i := 0) (by rfl)
  have bc1 := cell_of HB20.out (i := 1) (by rfl)
  have bc2 := cell_of HB20.out (i := 2) (by rfl)
  have x0 : w20.cell? ⟨q, 0, none⟩ = some (.bool true) := cell_of HX20.out (by rfl)
  have x1 : w20.cell? ⟨q, 1, none⟩ = some (.int .u64 0) := cell_of HX20.out (by rfl)
  have x2 : w20.cell? ⟨q, 2, none⟩ = some (.int .u64 (m : Int)) := cell_of HX20.out (by rfl)
  have HGR : Hid (getR k s = .tuple #[WV (if fitsB k ⟨true, 0, m⟩ = true then ⟨true, 0, m⟩ else ⟨false, 0, 0⟩), iV (if fitsB k ⟨true, 0, m⟩ = true then 0 else 4)]) := hid (by unfold getR; rw [HV.out])
  cases hft : fitsB k ⟨true, 0, m⟩
  · have G : Hid (getR k s = .tuple #[WV ⟨false, 0, 0⟩, iV 4]) := hid (by rw [HGR.out, hft]; rfl)
    clear hft HGR
    go_wp2
    (try simp only [Exit.inBlock, Exit.then])
    refine bodyPost_ret (results_ct rfl _ rfl (run_loadVar_row _ sb _ 86 _ _ _ (cells3 (.bool false) (.int .u64 0) (.int .u64 0) HB20.out) Tryz.underlying86 rfl (by kernel_rfl))) rfl ?_
    exact ⟨by rw [G.out]; rfl, ((HK20.out.setCell_new (p := ⟨sb, 0, none⟩) (by have := HSB.out; show _ ≤ sb; omega) _).setCell_new (p := ⟨sb, 1, none⟩) (by have := HSB.out; show _ ≤ sb; omega) _).setCell_new (p := ⟨sb, 2, none⟩) (by have := HSB.out; show _ ≤ sb; omega) _⟩
  · have G : Hid (getR k s = .tuple #[WV ⟨true, 0, m⟩, iV 0]) := hid (by rw [HGR.out, hft]; rfl)
    clear hft HGR
    go_wp2
    (try simp only [Exit.inBlock, Exit.then])
    refine bodyPost_ret (results_ct rfl _ rfl (run_loadVar_row _ sb _ 86 _ _ _ (cells3 (.bool true) (.int .u64 0) (.int .u64 (m : Int)) HB20.out) Tryz.underlying86 rfl (by kernel_rfl))) rfl ?_
    exact ⟨by rw [G.out]; rfl, ((HK20.out.setCell_new (p := ⟨sb, 0, none⟩) (by have := HSB.out; show _ ≤ sb; omega) _).setCell_new (p := ⟨sb, 1, none⟩) (by have := HSB.out; show _ ≤ sb; omega) _).setCell_new (p := ⟨sb, 2, none⟩) (by have := HSB.out; show _ ≤ sb; omega) _⟩

set_option maxRecDepth 20000 in
set_option maxHeartbeats 8000000 in
theorem f_get8 (k : Int) (hk : kindB k = true) (hz : szN k = 8) (s : ByteArray) (hs : s.size = 8) (w : World) : Calls Tryz.prog 81 #[.int .i64 k, .string s] w fun r w' => r = .returned (getR k s) ∧ Keep (fun _ => False) w w' := by
  have hkr : 1 ≤ k ∧ k ≤ 10 := of_decide_eq_true hk
  have HKR := hid hkr; have HKD := hid hk
  have HSZ : Hid (sizeK k = (8 : Int)) := hid (by rw [sz_cast, hz]; rfl)
  have HS := hid hs
  have HNP : Hid (firstN s 8 < 18446744073709551616) := hid (by
    have h1 := leN_lt (s.data.toList.take 8)
    have h2 : (s.data.toList.take 8).length ≤ 8 := by rw [List.length_take]; omega
    exact Nat.lt_of_lt_of_le h1 (pow_le h2))
  have HDN : Hid ((!false && decide ((s.extract 8 s.size).size = 0)) = true) := hid (by rw [ByteArray.size_extract, hs]; rfl)
  have HGV : Hid (getV k s = if signK k = true ∧ greatN k < firstN s 8 then ⟨true, 0, 18446744073709551616 - firstN s 8⟩ else ⟨false, 0, firstN s 8⟩) := hid (by unfold getV; rw [hz])
  obtain ⟨n, hn⟩ : ∃ n, firstN s 8 = n := ⟨_, rfl⟩
  rw [hn] at HNP HGV
  have HN := hid hn
  clear hk hkr hz hs hn
  obtain ⟨w0, hw0, hb0, hs0, hk0⟩ := box1 w Z3 86
  have HB0 := hid hb0; have HK0 := hid hk0; have HSW := hid hs0
  clear hb0 hk0 hs0
  go_enter Tryz.func81, Tryz.ntmps81
  go_upto_region 1 with fail
  rw [← hw0]
  clear hw0
  generalize hsb : w.heap.size = sb at *
  have HSB := hid hsb
  clear hsb
  go_wp2_with fail
  refine (is_kind k _).mono ?_
  rintro r w_ ⟨rfl, rfl⟩
  rw [HKD.out]
  go_wp2_with fail
  refine (size_of k _).mono ?_
  rintro r w1 ⟨rfl, hk1⟩
  rw [HSZ.out]
  have HK1 := hid (HK0.out.trans hk1); have HB1 := hid (hk1.get HB0.out id)
  have HS1 : Hid (sb < w1.heap.size) := hid (by have := hk1.size; have := HSW.out; omega)
  clear hk1
  go_wp2_with fail
  refine (rd_read s _).mono ?_
  rintro r w2 ⟨rfl, hr2, hk2⟩
  have HK2 := hid (HK1.out.trans hk2); have HB2 := hid (hk2.get HB1.out id); have HR2 := hid hr2
  have HS2 := hid (lt_of_heap hr2)
  clear hr2 hk2
  generalize w1.heap.size = rb at *
  go_wp2_with fail
  refine (rd_num_yes rb s 8 (by unfold WideOk; omega) _ (by have := HS.out; omega) (by have := HS.out; omega) HR2.out).mono ?_
  rintro r w3 ⟨rfl, hr3, hk3⟩
  rw [HN.out]
  have HK3 := hid (keep_new HK2.out hk3 (fun g hg => by have := HSB.out; have := HS1.out; omega)); have HB3 := hid (hk3.get HB2.out (by have := HS1.out; omega)); have HR3 := hid hr3
  have HS3 : Hid (rb < w3.heap.size) := hid (lt_of_heap hr3)
  clear hr3 hk3
  go_wp2_with fail
  refine (w_ofword n _).mono ?_
  rintro r w4 ⟨rfl, hk4⟩
  obtain ⟨w5, hw5, hb5, hs5, hk5⟩ := box1 w4 #[.bool false, .int .u64 0, .int .u64 (n : Int)] 86
  have HK5 := hid (((HK3.out.trans hk4).trans hk5).drew); have HB5 := hid ((hk4.trans hk5).drew.get HB3.out id); have HR5 := hid (HR3.out.keep0 (hk4.trans hk5).drew)
  have HX5 : Hid (w5.drew.heap[w4.heap.size]? = _) := hid hb5
  have HS4 : Hid (rb < w4.heap.size) := hid (by have := hk4.size; have := HS3.out; omega)
  clear hk4 hk5 hb5 hs5
  go_upto_region 6 with fail
  rw [← hw5]
  clear hw5
  generalize w4.heap.size = q at *
  have x0 : w5.drew.cell? ⟨q, 0, none⟩ = some (.bool false) := cell_of HX5.out (by rfl)
  have x1 : w5.drew.cell? ⟨q, 1, none⟩ = some (.int .u64 0) := cell_of HX5.out (by rfl)
  have x2 : w5.drew.cell? ⟨q, 2, none⟩ = some (.int .u64 (n : Int)) := cell_of HX5.out (by rfl)
  refine Plan.wp_region_pl [(false, 0, []), (true, 1, []), (false, 2, []), (false, 3, []), (false, 4, []), (false, 5, []), (true, 6, [4]), (true, 7, []), (false, 8, []), (false, 9, [])] (by as_aux_lemma => kernel_rfl) (by as_aux_lemma => kernel_rfl) ?_
  refine Plan.pl_st rfl ?_; go_big_quiet_step (fail); refine wpQuiet_nil ?_
  refine Plan.pl_ac rfl ?_
  go_wp2_with fail
  refine (kind_of k _).mono ?_
  rintro r w6 ⟨nm, rfl, hk6⟩
  have hfd := field_sign nm (sizeK k) (signK k) w6
  clear x0 x1 x2
  have HK6 := hid (HK5.out.trans hk6); have HB6 := hid (hk6.get HB5.out id); have HR6 := hid (HR5.out.keep0 hk6); have HX6 := hid (hk6.get HX5.out id)
  clear hk6
  have x0 : w6.cell? ⟨q, 0, none⟩ = some (.bool false) := cell_of HX6.out (by rfl)
  have x1 : w6.cell? ⟨q, 1, none⟩ = some (.int .u64 0) := cell_of HX6.out (by rfl)
  have x2 : w6.cell? ⟨q, 2, none⟩ = some (.int .u64 (n : Int)) := cell_of HX6.out (by rfl)
  go_wp2
  refine Plan.plQ_mk Plan.chk_end ?_
  cases hsg : signK k
  · rw [hsg] at hfd
    have HV : Hid (getV k s = ⟨false, 0, n⟩) := hid (by rw [HGV.out, if_neg (by rw [hsg]; simp)])
    clear hsg
    refine Plan.pl_st rfl ?_; go_big_quiet_step (fail); refine wpQuiet_nil ?_
    refine Plan.pl_st rfl ?_; go_big_quiet_step (fail); refine wpQuiet_nil ?_
    refine Plan.pl_st rfl ?_; go_big_quiet_step (fail); refine wpQuiet_nil ?_
    refine Plan.pl_st rfl ?_; go_big_quiet_step (fail); refine wpQuiet_nil ?_
    refine Plan.pl_ac rfl ?_
    go_wp2
    refine Plan.plQ_mk ?_ ?_
    · repeat (refine Plan.chk_st rfl ?_ ?_; focus (go_big_quiet_step (fail); exact wpQuiet_nil rfl))
      exact Plan.chk_end
    refine Plan.pl_ac rfl ?_
    go_wp2
    refine Plan.plQ_mk Plan.chk_end ?_
    refine Plan.pl_st rfl ?_; go_big_quiet_step (fail); refine wpQuiet_nil ?_
    refine Plan.pl_st rfl ?_; go_big_quiet_step (fail); refine wpQuiet_nil ?_
    refine Plan.pl_end ?_
    clear hfd x0 x1 x2
    go_wp2_with fail
    refine (rd_done rb _ false _ HR6.out).mono ?_
    rintro r w_ ⟨rfl, rfl⟩
    rw [HDN.out]
    have x0 : w6.cell? ⟨q, 0, none⟩ = some (.bool false) := cell_of HX6.out (by rfl)
    have x1 : w6.cell? ⟨q, 1, none⟩ = some (.int .u64 0) := cell_of HX6.out (by rfl)
    have x2 : w6.cell? ⟨q, 2, none⟩ = some (.int .u64 (n : Int)) := cell_of HX6.out (by rfl)
    go_wp2_with fail
    refine (f_fits k ⟨false, 0, n⟩ ⟨(by have := HNP.out; show (0 : Nat) < 18446744073709551616; omega), (by have := HNP.out; show (n : Nat) < 18446744073709551616; omega)⟩ _).mono ?_
    rintro r w20 ⟨rfl, hk20⟩
    have HK20 := hid (HK6.out.trans hk20); have HB20 := hid (hk20.get HB6.out id); have HR20 := hid (HR6.out.keep0 hk20); have HX20 := hid (hk20.get HX6.out id)
    clear hk20
    clear x0 x1 x2
    have b0 := free_of HB20.out 0
    have b1 := free_of HB20.out 1
    have b2 := free_of HB20.out 2
    have bc0 := cell_of HB20.out (i := 0) (by rfl)
    have bc1 := cell_of HB20.out (i := 1) (by rfl)
    have bc2 := cell_of HB20.out (i := 2) (by rfl)
    have x0 : w20.cell? ⟨q, 0, none⟩ = some (.bool false) := cell_of HX20.out (by rfl)
    have x1 : w20.cell? ⟨q, 1, none⟩ = some (.int .u64 0) := cell_of HX20.out (by rfl)
    have x2 : w20.cell? ⟨q, 2, none⟩ = some (.int .u64 (n : Int)) := cell_of HX20.out (by rfl)
    have HGR : Hid (getR k s = .tuple #[WV (if fitsB k ⟨false, 0, n⟩ = true then ⟨false, 0, n⟩ else ⟨false, 0, 0⟩), iV (if fitsB k ⟨false, 0, n⟩ = true then 0 else 4)]) := hid (by unfold getR; rw [HV.out])
    cases hft : fitsB k ⟨false, 0, n⟩
    · have G : Hid (getR k s = .tuple #[WV ⟨false, 0, 0⟩, iV 4]) := hid (by rw [HGR.out, hft]; rfl)
      clear hft HGR
      go_wp2
      (try simp only [Exit.inBlock, Exit.then])
      refine bodyPost_ret (results_ct rfl _ rfl (run_loadVar_row _ sb _ 86 _ _ _ (cells3 (.bool false) (.int .u64 0) (.int .u64 0) HB20.out) Tryz.underlying86 rfl (by kernel_rfl))) rfl ?_
      exact ⟨by rw [G.out]; rfl, ((HK20.out.setCell_new (p := ⟨sb, 0, none⟩) (by have := HSB.out; show _ ≤ sb; omega) _).setCell_new (p := ⟨sb, 1, none⟩) (by have := HSB.out; show _ ≤ sb; omega) _).setCell_new (p := ⟨sb, 2, none⟩) (by have := HSB.out; show _ ≤ sb; omega) _⟩
    · have G : Hid (getR k s = .tuple #[WV ⟨false, 0, n⟩, iV 0]) := hid (by rw [HGR.out, hft]; rfl)
      clear hft HGR
      go_wp2
      (try simp only [Exit.inBlock, Exit.then])
      refine bodyPost_ret (results_ct rfl _ rfl (run_loadVar_row _ sb _ 86 _ _ _ (cells3 (.bool false) (.int .u64 0) (.int .u64 (n : Int)) HB20.out) Tryz.underlying86 rfl (by kernel_rfl))) rfl ?_
      exact ⟨by rw [G.out]; rfl, ((HK20.out.setCell_new (p := ⟨sb, 0, none⟩) (by have := HSB.out; show _ ≤ sb; omega) _).setCell_new (p := ⟨sb, 1, none⟩) (by have := HSB.out; show _ ≤ sb; omega) _).setCell_new (p := ⟨sb, 2, none⟩) (by have := HSB.out; show _ ≤ sb; omega) _⟩
  rw [hsg] at hfd
  refine Plan.pl_st rfl ?_; go_big_quiet_step (fail); refine wpQuiet_nil ?_
  refine Plan.pl_st rfl ?_; go_big_quiet_step (fail); refine wpQuiet_nil ?_
  refine Plan.pl_st rfl ?_; go_big_quiet_step (fail); refine wpQuiet_nil ?_
  refine Plan.pl_st rfl ?_; go_big_quiet_step (fail); refine wpQuiet_nil ?_
  refine Plan.pl_ac rfl ?_
  go_wp2_with fail
  refine (f_great k HKR.out.1 HKR.out.2 _).mono ?_
  rintro r w7 ⟨rfl, hk7⟩
  clear x0 x1 x2 hfd
  have HK7 := hid (HK6.out.trans hk7); have HB7 := hid (hk7.get HB6.out id); have HR7 := hid (HR6.out.keep0 hk7); have HX7 := hid (hk7.get HX6.out id)
  clear hk7
  have x0 : w7.cell? ⟨q, 0, none⟩ = some (.bool false) := cell_of HX7.out (by rfl)
  have x1 : w7.cell? ⟨q, 1, none⟩ = some (.int .u64 0) := cell_of HX7.out (by rfl)
  have x2 : w7.cell? ⟨q, 2, none⟩ = some (.int .u64 (n : Int)) := cell_of HX7.out (by rfl)
  go_wp2
  refine Plan.plQ_mk ?_ ?_
  · repeat (refine Plan.chk_st rfl ?_ ?_; focus (go_big_quiet_step (fail); exact wpQuiet_nil rfl))
    exact Plan.chk_end
  have HGK := hid (greatN_lt k)
  have HC : Hid (cmpW ⟨false, 0, n⟩ ⟨false, 0, greatN k⟩ = cmpI (n : Int) (greatN k : Int)) := hid (cmp_pos _ _)
  rw [hsg] at HGV
  clear hsg
  generalize greatN k = g at *
  refine Plan.pl_ac rfl ?_
  go_wp2_with fail
  refine (w_cmp ⟨false, 0, n⟩ ⟨false, 0, g⟩ ⟨(by decide : (0 : Nat) < 18446744073709551616), (by have := HNP.out; omega : n < 18446744073709551616)⟩ ⟨(by decide : (0 : Nat) < 18446744073709551616), HGK.out⟩ _).mono ?_
  rintro r w8 ⟨rfl, hk8⟩
  clear x0 x1 x2
  have HK8 := hid (HK7.out.trans hk8); have HB8 := hid (hk8.get HB7.out id); have HR8 := hid (HR7.out.keep0 hk8); have HX8 := hid (hk8.get HX7.out id)
  clear hk8
  have x0 : w8.cell? ⟨q, 0, none⟩ = some (.bool false) := cell_of HX8.out (by rfl)
  have x1 : w8.cell? ⟨q, 1, none⟩ = some (.int .u64 0) := cell_of HX8.out (by rfl)
  have x2 : w8.cell? ⟨q, 2, none⟩ = some (.int .u64 (n : Int)) := cell_of HX8.out (by rfl)
  by_cases hgn : g < n
  rotate_left
  · have HV : Hid (getV k s = ⟨false, 0, n⟩) := hid (by rw [HGV.out, if_neg (by intro h; exact hgn h.2)])
    obtain ⟨c, hc⟩ : ∃ c, cmpW ⟨false, 0, n⟩ ⟨false, 0, g⟩ = c := ⟨_, rfl⟩
    have hdc : decide (0 < c) = false := decide_eq_false (by rw [← hc, HC.out]; unfold cmpI; split; omega; split <;> omega)
    rw [hc]
    clear hc hgn
    go_wp2
    refine Plan.plQ_mk Plan.chk_end ?_
    refine Plan.pl_st rfl ?_; go_big_quiet_step (fail); refine wpQuiet_nil ?_
    refine Plan.pl_st rfl ?_; go_big_quiet_step (fail); refine wpQuiet_nil ?_
    refine Plan.pl_end ?_
    clear x0 x1 x2 hdc
    go_wp2_with fail
    refine (rd_done rb _ false _ HR8.out).mono ?_
    rintro r w_ ⟨rfl, rfl⟩
    rw [HDN.out]
    have x0 : w8.cell? ⟨q, 0, none⟩ = some (.bool false) := cell_of HX8.out (by rfl)
    have x1 : w8.cell? ⟨q, 1, none⟩ = some (.int .u64 0) := cell_of HX8.out (by rfl)
    have x2 : w8.cell? ⟨q, 2, none⟩ = some (.int .u64 (n : Int)) := cell_of HX8.out (by rfl)
    go_wp2_with fail
    refine (f_fits k ⟨false, 0, n⟩ ⟨(by have := HNP.out; show (0 : Nat) < 18446744073709551616; omega), (by have := HNP.out; show (n : Nat) < 18446744073709551616; omega)⟩ _).mono ?_
    rintro r w20 ⟨rfl, hk20⟩
    have HK20 := hid (HK8.out.trans hk20); have HB20 := hid (hk20.get HB8.out id); have HR20 := hid (HR8.out.keep0 hk20); have HX20 := hid (hk20.get HX8.out id)
    clear hk20
    clear x0 x1 x2
    have b0 := free_of HB20.out 0
    have b1 := free_of HB20.out 1
    have b2 := free_of HB20.out 2
    have bc0 := cell_of HB20.out (i := 0) (by rfl)
    have bc1 := cell_of HB20.out (i := 1) (by rfl)
    have bc2 := cell_of HB20.out (i := 2) (by rfl)
    have x0 : w20.cell? ⟨q, 0, none⟩ = some (.bool false) := cell_of HX20.out (by rfl)
    have x1 : w20.cell? ⟨q, 1, none⟩ = some (.int .u64 0) := cell_of HX20.out (by rfl)
    have x2 : w20.cell? ⟨q, 2, none⟩ = some (.int .u64 (n : Int)) := cell_of HX20.out (by rfl)
    have HGR : Hid (getR k s = .tuple #[WV (if fitsB k ⟨false, 0, n⟩ = true then ⟨false, 0, n⟩ else ⟨false, 0, 0⟩), iV (if fitsB k ⟨false, 0, n⟩ = true then 0 else 4)]) := hid (by unfold getR; rw [HV.out])
    cases hft : fitsB k ⟨false, 0, n⟩
    · have G : Hid (getR k s = .tuple #[WV ⟨false, 0, 0⟩, iV 4]) := hid (by rw [HGR.out, hft]; rfl)
      clear hft HGR
      go_wp2
      (try simp only [Exit.inBlock, Exit.then])
      refine bodyPost_ret (results_ct rfl _ rfl (run_loadVar_row _ sb _ 86 _ _ _ (cells3 (.bool false) (.int .u64 0) (.int .u64 0) HB20.out) Tryz.underlying86 rfl (by kernel_rfl))) rfl ?_
      exact ⟨by rw [G.out]; rfl, ((HK20.out.setCell_new (p := ⟨sb, 0, none⟩) (by have := HSB.out; show _ ≤ sb; omega) _).setCell_new (p := ⟨sb, 1, none⟩) (by have := HSB.out; show _ ≤ sb; omega) _).setCell_new (p := ⟨sb, 2, none⟩) (by have := HSB.out; show _ ≤ sb; omega) _⟩
    · have G : Hid (getR k s = .tuple #[WV ⟨false, 0, n⟩, iV 0]) := hid (by rw [HGR.out, hft]; rfl)
      clear hft HGR
      go_wp2
      (try simp only [Exit.inBlock, Exit.then])
      refine bodyPost_ret (results_ct rfl _ rfl (run_loadVar_row _ sb _ 86 _ _ _ (cells3 (.bool false) (.int .u64 0) (.int .u64 (n : Int)) HB20.out) Tryz.underlying86 rfl (by kernel_rfl))) rfl ?_
      exact ⟨by rw [G.out]; rfl, ((HK20.out.setCell_new (p := ⟨sb, 0, none⟩) (by have := HSB.out; show _ ≤ sb; omega) _).setCell_new (p := ⟨sb, 1, none⟩) (by have := HSB.out; show _ ≤ sb; omega) _).setCell_new (p := ⟨sb, 2, none⟩) (by have := HSB.out; show _ ≤ sb; omega) _⟩
  have HV : Hid (getV k s = ⟨true, 0, 18446744073709551616 - n⟩) := hid (by rw [HGV.out, if_pos (by simpa using hgn)])
  have hc : cmpW ⟨false, 0, n⟩ ⟨false, 0, g⟩ = 1 := by rw [HC.out]; unfold cmpI; rw [if_pos (by omega)]
  rw [hc]
  have HGN := hid hgn
  clear hc hgn
  go_wp2
  refine Plan.plQ_mk Plan.chk_end ?_
  refine Plan.pl_st rfl ?_; go_big_quiet_step (fail); refine wpQuiet_nil ?_
  refine Plan.pl_st rfl ?_; go_big_quiet_step (fail); refine wpQuiet_nil ?_
  refine Plan.pl_end ?_
  clear x0 x1 x2
  have x0 : w8.drew.cell? ⟨q, 0, none⟩ = some (.bool false) := cell_of HX8.out (by rfl)
  have x1 : w8.drew.cell? ⟨q, 1, none⟩ = some (.int .u64 0) := cell_of HX8.out (by rfl)
  have x2 : w8.drew.cell? ⟨q, 2, none⟩ = some (.int .u64 (n : Int)) := cell_of HX8.out (by rfl)
  go_upto_region 7 with fail
  refine Plan.wp_region_pl [(false, 0, []), (false, 1, []), (false, 2, []), (true, 3, [0]), (true, 4, [0]), (true, 5, []), (false, 6, []), (false, 7, []), (false, 8, []), (true, 9, [8])] (by as_aux_lemma => kernel_rfl) (by as_aux_lemma => kernel_rfl) ?_
  refine Plan.pl_st rfl ?_; go_big_quiet_step (fail); refine wpQuiet_nil ?_
  refine Plan.pl_st rfl ?_; go_big_quiet_step (fail); refine wpQuiet_nil ?_
  refine Plan.pl_st rfl ?_; go_big_quiet_step (fail); refine wpQuiet_nil ?_
  refine Plan.pl_ac rfl ?_
  go_wp2_with fail
  refine (f_power 64 (by omega) _).mono ?_
  rintro r w_ ⟨rfl, rfl⟩
  go_wp2
  refine Plan.plQ_mk ?_ ?_
  · repeat (refine Plan.chk_st rfl ?_ ?_; focus (go_big_quiet_step (fail); exact wpQuiet_nil rfl))
    exact Plan.chk_end
  refine Plan.pl_ac rfl ?_
  go_wp2_with fail
  refine (w_ofword 18446744073709551615 _).mono ?_
  rintro r w9 ⟨rfl, hk9⟩
  have hk9 := (Keep.refl _ w8).drew.trans hk9
  clear x0 x1 x2
  have HK9 := hid (HK8.out.trans hk9); have HB9 := hid (hk9.get HB8.out id); have HR9 := hid (HR8.out.keep0 hk9); have HX9 := hid (hk9.get HX8.out id)
  clear hk9
  have x0 : w9.cell? ⟨q, 0, none⟩ = some (.bool false) := cell_of HX9.out (by rfl)
  have x1 : w9.cell? ⟨q, 1, none⟩ = some (.int .u64 0) := cell_of HX9.out (by rfl)
  have x2 : w9.cell? ⟨q, 2, none⟩ = some (.int .u64 (n : Int)) := cell_of HX9.out (by rfl)
  go_wp2
  refine Plan.plQ_mk ?_ ?_
  · repeat (refine Plan.chk_st rfl ?_ ?_; focus (go_big_quiet_step (fail); exact wpQuiet_nil rfl))
    exact Plan.chk_end
  refine Plan.pl_ac rfl ?_
  go_wp2_with fail
  refine (w_sub_pp n 18446744073709551615 (by decide) (by have := HNP.out; omega) (by decide) _).mono ?_
  rintro r w10 ⟨rfl, hk10⟩
  clear x0 x1 x2
  have HK10 := hid (HK9.out.trans hk10); have HB10 := hid (hk10.get HB9.out id); have HR10 := hid (HR9.out.keep0 hk10); have HX10 := hid (hk10.get HX9.out id)
  clear hk10
  have HSUB : Hid (∀ wz, Calls Tryz.prog 121 #[WV (normW true 0 (18446744073709551615 - n)), WV ⟨false, 0, 1⟩] wz fun r w' => r = .returned (.tuple #[WV ⟨true, 0, 18446744073709551616 - n⟩, .int .i64 0]) ∧ Keep (fun _ => False) wz w') := hid (by
    intro wz
    by_cases h0 : 18446744073709551615 - n = 0
    · rw [h0, show normW true 0 0 = ⟨false, 0, 0⟩ from rfl]
      have h := w_sub_pp 0 1 (by decide) (by decide) (by decide) wz
      rwa [show normW true 0 (1 - 0) = ⟨true, 0, 18446744073709551616 - n⟩ by rw [show 18446744073709551616 - n = 1 - 0 by have := HNP.out; omega]; rfl] at h
    · rw [normW_neg _ (by omega)]
      have h := w_sub_nn (18446744073709551615 - n) 1 (by omega) (by decide) (by have := HGN.out; omega) wz
      rwa [show 18446744073709551615 - n + 1 = 18446744073709551616 - n by have := HNP.out; omega] at h)
  generalize normW true 0 (18446744073709551615 - n) = y at *
  have x0 := cell_of HX10.out (i := 0) (by rfl)
  have x1 := cell_of HX10.out (i := 1) (by rfl)
  have x2 := cell_of HX10.out (i := 2) (by rfl)
  have y0 := free_of HX10.out 0
  have y1 := free_of HX10.out 1
  have y2 := free_of HX10.out 2
  go_wp2
  refine Plan.plQ_mk Plan.chk_end ?_
  refine Plan.pl_st rfl ?_; go_big_quiet_step (fail); refine wpQuiet_nil ?_
  refine Plan.pl_st rfl ?_; go_big_quiet_step (fail); refine wpQuiet_nil ?_
  refine Plan.pl_st rfl ?_; go_big_quiet_step (fail); refine wpQuiet_nil ?_
  refine Plan.pl_ac rfl ?_
  go_wp2
  refine Plan.plQ_mk ?_ ?_
  · repeat (refine Plan.chk_st rfl ?_ ?_; focus (go_big_quiet_step (fail); exact wpQuiet_nil rfl))
    exact Plan.chk_end
  refine Plan.pl_end ?_
  clear x0 x1 x2 y0 y1 y2
  have hx11 := cells3 (.bool y.neg) (.int .u64 (y.hi : Int)) (.int .u64 (y.lo : Int)) HX10.out
  have hk11 := (((Keep.refl (fun g => g = q) w10).setCell (p := ⟨q, 0, none⟩) rfl (.bool y.neg)).setCell (p := ⟨q, 1, none⟩) rfl (.int .u64 (y.hi : Int))).setCell (p := ⟨q, 2, none⟩) rfl (.int .u64 (y.lo : Int))
  go_upto_region 8 with fail
  generalize ((w10.setCell ⟨q, 0, none⟩ (.bool y.neg)).setCell ⟨q, 1, none⟩ (.int .u64 (y.hi : Int))).setCell ⟨q, 2, none⟩ (.int .u64 (y.lo : Int)) = w11 at *
  have HK11 := hid (keep_new HK10.out hk11 (fun g hg => by have := HSB.out; have := HS1.out; have := HS4.out; omega)).drew; have HB11 := hid (hk11.drew.get HB10.out (by have := HS1.out; have := HS4.out; omega)); have HR11 := hid (hk11.drew.get HR10.out (by have := HS4.out; omega)); have HX11 : Hid (w11.drew.heap[q]? = _) := hid hx11
  clear hk11 hx11
  have x0 := cell_of HX11.out (i := 0) (by rfl)
  have x1 := cell_of HX11.out (i := 1) (by rfl)
  have x2 := cell_of HX11.out (i := 2) (by rfl)
  refine Plan.wp_region_pl [(false, 0, []), (true, 1, [0]), (true, 2, []), (false, 3, []), (false, 4, []), (false, 5, []), (true, 6, [5])] (by as_aux_lemma => kernel_rfl) (by as_aux_lemma => kernel_rfl) ?_
  refine Plan.pl_st rfl ?_; go_big_quiet_step (fail); refine wpQuiet_nil ?_
  refine Plan.pl_ac rfl ?_
  go_wp2_with fail
  refine (w_of 1 (by decide) _).mono ?_
  rintro r w12 ⟨rfl, hk12⟩
  clear x0 x1 x2
  have HK12 := hid (HK11.out.trans hk12); have HB12 := hid (hk12.get HB11.out id); have HR12 := hid (hk12.get HR11.out id); have HX12 := hid (hk12.get HX11.out id)
  clear hk12
  have x0 := cell_of HX12.out (i := 0) (by rfl)
  have x1 := cell_of HX12.out (i := 1) (by rfl)
  have x2 := cell_of HX12.out (i := 2) (by rfl)
  go_wp2
  refine Plan.plQ_mk ?_ ?_
  · repeat (refine Plan.chk_st rfl ?_ ?_; focus (go_big_quiet_step (fail); exact wpQuiet_nil rfl))
    exact Plan.chk_end
  refine Plan.pl_ac rfl ?_
  go_wp2_with fail
  refine (HSUB.out _).mono ?_
  rintro r w13 ⟨rfl, hk13⟩
  clear x0 x1 x2
  have HK13 := hid (HK12.out.trans hk13); have HB13 := hid (hk13.get HB12.out id); have HR13 := hid (hk13.get HR12.out id); have HX13 := hid (hk13.get HX12.out id)
  clear hk13
  have HM6 : Hid (18446744073709551616 - n < 18446744073709551616) := hid (by have := HGN.out; omega)
  generalize 18446744073709551616 - n = m at *
  have x0 := cell_of HX13.out (i := 0) (by rfl)
  have x1 := cell_of HX13.out (i := 1) (by rfl)
  have x2 := cell_of HX13.out (i := 2) (by rfl)
  have y0 := free_of HX13.out 0
  have y1 := free_of HX13.out 1
  have y2 := free_of HX13.out 2
  go_wp2
  refine Plan.plQ_mk Plan.chk_end ?_
  refine Plan.pl_st rfl ?_; go_big_quiet_step (fail); refine wpQuiet_nil ?_
  refine Plan.pl_st rfl ?_; go_big_quiet_step (fail); refine wpQuiet_nil ?_
  refine Plan.pl_st rfl ?_; go_big_quiet_step (fail); refine wpQuiet_nil ?_
  refine Plan.pl_ac rfl ?_
  go_wp2
  refine Plan.plQ_mk ?_ ?_
  · repeat (refine Plan.chk_st rfl ?_ ?_; focus (go_big_quiet_step (fail); exact wpQuiet_nil rfl))
    exact Plan.chk_end
  refine Plan.pl_end ?_
  clear x0 x1 x2 y0 y1 y2
  have hx14 := cells3 (.bool true) (.int .u64 ((0 : Nat) : Int)) (.int .u64 (m : Int)) HX13.out
  have hk14 := (((Keep.refl (fun g => g = q) w13).setCell (p := ⟨q, 0, none⟩) rfl (.bool true)).setCell (p := ⟨q, 1, none⟩) rfl (.int .u64 ((0 : Nat) : Int))).setCell (p := ⟨q, 2, none⟩) rfl (.int .u64 (m : Int))
  go_upto_region 9 with fail
  generalize ((w13.setCell ⟨q, 0, none⟩ (.bool true)).setCell ⟨q, 1, none⟩ (.int .u64 ((0 : Nat) : Int))).setCell ⟨q, 2, none⟩ (.int .u64 (m : Int)) = w14 at *
  have HK14 := hid (keep_new HK13.out hk14 (fun g hg => by have := HSB.out; have := HS1.out; have := HS4.out; omega)); have HB14 := hid (hk14.get HB13.out (by have := HS1.out; have := HS4.out; omega)); have HR14 : Hid (RdS w14 rb (s.extract 8 s.size) false) := hid (hk14.get HR13.out (by have := HS4.out; omega)); have HX14 := hid hx14
  clear hk14 hx14
  go_wp2_with fail
  refine (rd_done rb _ false _ HR14.out).mono ?_
  rintro r w_ ⟨rfl, rfl⟩
  rw [HDN.out]
  have x0 : w14.cell? ⟨q, 0, none⟩ = some (.bool true) := cell_of HX14.out (by rfl)
  have x1 : w14.cell? ⟨q, 1, none⟩ = some (.int .u64 0) := cell_of HX14.out (by rfl)
  have x2 : w14.cell? ⟨q, 2, none⟩ = some (.int .u64 (m : Int)) := cell_of HX14.out (by rfl)
  go_wp2_with fail
  refine (f_fits k ⟨true, 0, m⟩ ⟨(by have := HM6.out; show (0 : Nat) < 18446744073709551616; omega), (by have := HM6.out; show (m : Nat) < 18446744073709551616; omega)⟩ _).mono ?_
  rintro r w20 ⟨rfl, hk20⟩
  have HK20 := hid (HK14.out.trans hk20); have HB20 := hid (hk20.get HB14.out id); have HR20 := hid (HR14.out.keep0 hk20); have HX20 := hid (hk20.get HX14.out id)
  clear hk20
  clear x0 x1 x2
  have b0 := free_of HB20.out 0
  have b1 := free_of HB20.out 1
  have b2 := free_of HB20.out 2
  have bc0 := cell_of HB20.out (i := 0) (by rfl)
  have bc1 := cell_of HB20.out (i := 1) (by rfl)
  have bc2 := cell_of HB20.out (i := 2) (by rfl)
  have x0 : w20.cell? ⟨q, 0, none⟩ = some (.bool true) := cell_of HX20.out (by rfl)
  have x1 : w20.cell? ⟨q, 1, none⟩ = some (.int .u64 0) := cell_of HX20.out (by rfl)
  have x2 : w20.cell? ⟨q, 2, none⟩ = some (.int .u64 (m : Int)) := cell_of HX20.out (by rfl)
  have HGR : Hid (getR k s = .tuple #[WV (if fitsB k ⟨true, 0, m⟩ = true then ⟨true, 0, m⟩ else ⟨false, 0, 0⟩), iV (if fitsB k ⟨true, 0, m⟩ = true then 0 else 4)]) := hid (by unfold getR; rw [HV.out])
  cases hft : fitsB k ⟨true, 0, m⟩
  · have G : Hid (getR k s = .tuple #[WV ⟨false, 0, 0⟩, iV 4]) := hid (by rw [HGR.out, hft]; rfl)
    clear hft HGR
    go_wp2
    (try simp only [Exit.inBlock, Exit.then])
    refine bodyPost_ret (results_ct rfl _ rfl (run_loadVar_row _ sb _ 86 _ _ _ (cells3 (.bool false) (.int .u64 0) (.int .u64 0) HB20.out) Tryz.underlying86 rfl (by kernel_rfl))) rfl ?_
    exact ⟨by rw [G.out]; rfl, ((HK20.out.setCell_new (p := ⟨sb, 0, none⟩) (by have := HSB.out; show _ ≤ sb; omega) _).setCell_new (p := ⟨sb, 1, none⟩) (by have := HSB.out; show _ ≤ sb; omega) _).setCell_new (p := ⟨sb, 2, none⟩) (by have := HSB.out; show _ ≤ sb; omega) _⟩
  · have G : Hid (getR k s = .tuple #[WV ⟨true, 0, m⟩, iV 0]) := hid (by rw [HGR.out, hft]; rfl)
    clear hft HGR
    go_wp2
    (try simp only [Exit.inBlock, Exit.then])
    refine bodyPost_ret (results_ct rfl _ rfl (run_loadVar_row _ sb _ 86 _ _ _ (cells3 (.bool true) (.int .u64 0) (.int .u64 (m : Int)) HB20.out) Tryz.underlying86 rfl (by kernel_rfl))) rfl ?_
    exact ⟨by rw [G.out]; rfl, ((HK20.out.setCell_new (p := ⟨sb, 0, none⟩) (by have := HSB.out; show _ ≤ sb; omega) _).setCell_new (p := ⟨sb, 1, none⟩) (by have := HSB.out; show _ ≤ sb; omega) _).setCell_new (p := ⟨sb, 2, none⟩) (by have := HSB.out; show _ ≤ sb; omega) _⟩

theorem f_get (k : Int) (hk : kindB k = true) (s : ByteArray) (hs : s.size = szN k) (w : World) : Calls Tryz.prog 81 #[.int .i64 k, .string s] w fun r w' => r = .returned (getR k s) ∧ Keep (fun _ => False) w w' := by
  have hkr : 1 ≤ k ∧ k ≤ 10 := of_decide_eq_true hk
  have h := size_cases hkr.1 hkr.2
  rw [sz_cast] at h
  have h' : szN k = 1 ∨ szN k = 2 ∨ szN k = 4 ∨ szN k = 8 := by omega
  rcases h' with h | h | h | h
  · exact f_get1 k hk h s (by rw [hs, h]) w
  · exact f_get2 k hk h s (by rw [hs, h]) w
  · exact f_get4 k hk h s (by rw [hs, h]) w
  · exact f_get8 k hk h s (by rw [hs, h]) w
end Go.Proofs.YtlhdofkgcbmnnaaGreat
