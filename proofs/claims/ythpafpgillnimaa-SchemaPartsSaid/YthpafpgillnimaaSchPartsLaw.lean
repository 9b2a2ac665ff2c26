/- What is proved: the law SchemaParts returns true, whatever the two schemas and the parts. -/
import Derived.Test.YthpafpgillnimaaRef07b
import Derived.Test.YthpafpgillnimaaSchAwake
import Derived.Test.YthpafpgillnimaaSchGreat
import Derived.Test.YthpafpgillnimaaSchSame2
import Derived.Test.YthpafpgillnimaaSchClone2
import Derived.Test.YthpafpgillnimaaSchLess
namespace Go.Proofs.Ythpafpgillnimaa
open Go.RowKit Go.Proofs.Heap Go.Proofs.Sch Go.Proofs.Wide

set_option maxRecDepth 20000 in
set_option maxHeartbeats 8000000 in
theorem parts_true (v : Int) (p : Option Addr) (cap : Nat) (cs : List Cmp) (u : Int) (p2 : Option Addr) (cap2 : Nat) (ds : List Cmp) (q : Option Addr) (qc : Nat) (l : List Prt) (w : World) (hf : CP w w.heap.size p cs) (hg : CP w w.heap.size p2 ds) (hqc : l.length ≤ qc) (hv : PP w w.heap.size q l) (hfit : ∀ x ∈ l, ∀ y ∈ x.vals, y.fit) :
    Calls Try.prog 4 #[.agg #[.int .i64 v, .slice p cs.length cap], .agg #[.int .i64 u, .slice p2 ds.length cap2], .slice q l.length qc] w fun r w' => r = .returned (.bool true) ∧ Below w.heap.size w w' := by
  have hb1 := heap_alloc_new w (.cells #[.int .i64 v, .slice p cs.length cap] 24)
  have hb2 := heap_alloc_new (w.alloc (.cells #[.int .i64 v, .slice p cs.length cap] 24)) (.cells #[.int .i64 u, .slice p2 ds.length cap2] 24)
  have e1 : (w.alloc (.cells #[.int .i64 v, .slice p cs.length cap] 24)).heap.size = w.heap.size + 1 := by simp
  have hb1' := ((Keep.refl (fun _ => False) (w.alloc (.cells #[.int .i64 v, .slice p cs.length cap] 24))).alloc (.cells #[.int .i64 u, .slice p2 ds.length cap2] 24)).get hb1 id
  rw [e1] at hb2
  have hk := ((Keep.refl (fun _ => False) w).alloc (.cells #[.int .i64 v, .slice p cs.length cap] 24)).alloc (.cells #[.int .i64 u, .slice p2 ds.length cap2] 24)
  have HA := hid hb1'; have HB := hid hb2; have HK0 := hid hk
  have HF0 := hid (CP.mono (CP.low hf (Low.keep0 hk)) hk.size)
  have HG0 := hid (CP.mono (CP.low hg (Low.keep0 hk)) hk.size)
  have HV0 := hid (PP.mono (PP.low hv (Low.keep0 hk)) hk.size)
  have HX := hid hfit; have HQC := hid hqc
  clear hb1 hb2 hb1' e1 hk hf hg hv hfit hqc
  go_enter Try.func4, Try.ntmps4
  go_upto_region 1 with fail
  generalize (w.alloc (.cells #[.int .i64 v, .slice p cs.length cap] 24)).alloc (.cells #[.int .i64 u, .slice p2 ds.length cap2] 24) = w0 at *
  generalize hsb : w.heap.size = sb at *
  have HSB := hid hsb
  clear hsb
  have HS : Hid (∀ wy, Keep (fun _ => False) w0 wy → wy.cell? ⟨sb, 0, none⟩ = some (.int .i64 v) ∧ wy.cell? ⟨sb, 1, none⟩ = some (.slice p cs.length cap) ∧ wy.cell? ⟨sb + 1, 0, none⟩ = some (.int .i64 u) ∧ wy.cell? ⟨sb + 1, 1, none⟩ = some (.slice p2 ds.length cap2)) := hid (fun wy hk =>
    ⟨cell_of (hk.get HA.out id) (by rfl), cell_of (hk.get HA.out id) (by rfl), cell_of (hk.get HB.out id) (by rfl), cell_of (hk.get HB.out id) (by rfl)⟩)
  have HC : Hid (∀ wy, Keep (fun _ => False) w0 wy → CP wy wy.heap.size p cs ∧ CP wy wy.heap.size p2 ds ∧ PP wy wy.heap.size q l) := hid (fun wy hk => ⟨CP.mono (CP.low HF0.out (Low.keep0 hk)) hk.size, CP.mono (CP.low HG0.out (Low.keep0 hk)) hk.size, PP.mono (PP.low HV0.out (Low.keep0 hk)) hk.size⟩)
  go_wp2_with fail
  refine (awake_true _).mono ?_
  rintro r w1 ⟨rfl, hk1⟩
  have HK1 := hid hk1
  clear hk1
  obtain ⟨s0, s1, s2, s3⟩ := HS.out _ HK1.out
  go_wp2_with fail
  refine (sch_great v cs p cap _ (HC.out _ HK1.out).1).mono ?_
  rintro r w2 ⟨rfl, hk2⟩
  have HK2 := hid (HK1.out.trans hk2)
  clear hk2 s0 s1 s2 s3
  obtain ⟨s0, s1, s2, s3⟩ := HS.out _ HK2.out
  by_cases hfair : FairS cs
  rotate_left
  · rw [decide_eq_false hfair]
    clear hfair
    go_wp2
    go_ret
    exact ⟨rfl, (HK0.out.trans HK2.out).below⟩
  rw [decide_eq_true hfair]
  have hl30 := hfair.1
  have HSM := hid hfair.small
  clear hfair
  go_wp2_with fail
  refine (sch_great u ds p2 cap2 _ (HC.out _ HK2.out).2.1).mono ?_
  rintro r w3 ⟨rfl, hk3⟩
  have HK3 := hid (HK2.out.trans hk3)
  clear hk3 s0 s1 s2 s3
  by_cases hfair : FairS ds
  rotate_left
  · rw [decide_eq_false hfair]
    clear hfair
    go_wp2
    go_ret
    exact ⟨rfl, (HK0.out.trans HK3.out).below⟩
  rw [decide_eq_true hfair]
  have hm30 := hfair.1
  have HSN := hid hfair.small
  clear hfair
  by_cases hl12 : 12 < l.length
  · have g1 : decide ((12 : Int) < (l.length : Int)) = true := decide_eq_true (by omega)
    have g2 : decide (12 < l.length) = true := decide_eq_true hl12
    go_wp2
    go_ret
    exact ⟨rfl, (HK0.out.trans HK3.out).below⟩
  have g1 : decide ((12 : Int) < (l.length : Int)) = false := decide_eq_false (by omega)
  have g2 : decide (12 < l.length) = false := decide_eq_false hl12
  go_wp2_with fail
  clear g1 g2
  go_loopw [7] (fun i wr => ∃ k : Nat, k ≤ l.length ∧ i = iV k ∧ (∀ x ∈ l.take k, x.vals.length ≤ 100) ∧ Keep (fun _ => False) w0 wr) (fun i _ => l.length + 1 - (intOf i).toNat)
  case atStart => exact ⟨0, Nat.zero_le _, rfl, by simp, HK3.out⟩
  case round =>
    clear HK1 HK2 HK3
    obtain ⟨k, hk, rfl, hall, hkr⟩ := hrel
    have HALL := hid hall; have HKR := hid hkr
    clear hall hkr
    by_cases hlt : k < l.length
    · obtain ⟨x, hxk⟩ : ∃ x, l[k]? = some x := ⟨l[k], by simp [hlt]⟩
      have HXM := hid (HX.out x (List.mem_of_getElem? hxk))
      have HXK := hid hxk
      have HNX : Hid (x.vals.length ≤ 100 → ∀ y ∈ l.take (k + 1), y.vals.length ≤ 100) := hid (fun hc y hy => by
        rw [take_next hxk] at hy
        rcases List.mem_append.1 hy with h | h
        · exact HALL.out y h
        · rw [List.mem_singleton.1 h]; exact hc)
      obtain ⟨b, off, xq, xk, rfl, _, c0, c1, hxk2, _⟩ := PP.at (HC.out _ HKR.out).2.2 hxk
      have HXC := hid hxk2
      have hin : (0 : Int) ≤ (k : Int) ∧ (k : Int) < (l.length : Int) := ⟨by omega, by omega⟩
      clear hxk hxk2
      obtain ⟨xc, xv⟩ := x
      simp only at c0 c1 HXM HNX HXC
      by_cases hbig : 100 < xv.length
      · have g1 : decide ((100 : Int) < (xv.length : Int)) = true := decide_eq_true (by omega)
        have g2 : decide (100 < xv.length) = true := decide_eq_true hbig
        go_wp2
        go_ret
        exact ⟨rfl, (HK0.out.trans HKR.out).below⟩
      have g1 : decide ((100 : Int) < (xv.length : Int)) = false := decide_eq_false (by omega)
      have g2 : decide (100 < xv.length) = false := decide_eq_false hbig
      have HNA := hid (HNX.out (show xv.length ≤ 100 by omega))
      have HP : Hid (∀ wy, Keep (fun _ => False) w0 wy → wy.cell? ⟨b, off + k * 2, none⟩ = some (.int .i64 xc) ∧ wy.cell? ⟨b, off + k * 2 + 1, none⟩ = some (.slice xq xv.length xk) ∧ XP wy wy.heap.size xq xv) := hid (fun wy hk => by
        obtain ⟨b', off', q', k', hp', _, d0, d1, _, d3⟩ := PP.at HV0.out HXK.out
        injection hp' with hp'
        injection hp' with e1 e2
        subst e1; subst e2
        simp only at d0 d1 d3
        have hd1 := cell_keep0 HKR.out _ _ d1
        rw [c1] at hd1
        injection hd1 with hd1
        injection hd1 with f1 f2 f3
        subst f1; subst f3
        exact ⟨cell_keep0 hk _ _ d0, cell_keep0 hk _ _ d1, XP.mono (XP.low d3 (Low.keep0 hk)) hk.size⟩)
      clear c0 c1
      obtain ⟨c0, c1, _⟩ := HP.out _ HKR.out
      obtain ⟨d0, d1, _⟩ := HP.out _ HKR.out.drew
      obtain ⟨s0, s1, s2, s3⟩ := HS.out _ HKR.out.drew
      go_wp2_with fail
      clear g1 g2 c0 c1
      refine Plan.wp_region_pl [(false, 0, []), (false, 1, []), (false, 2, []), (false, 3, []), (false, 4, []), (false, 6, []), (false, 7, []), (false, 8, []), (false, 9, []), (false, 10, []), (true, 5, [10, 9, 8, 7, 6]), (true, 11, []), (false, 12, [])] (by kernel_rfl) (by kernel_rfl) ?_
      iterate 10 (refine Plan.pl_st rfl ?_; go_big_quiet_step (fail); refine wpQuiet_nil ?_)
      refine Plan.pl_ac rfl ?_
      go_wp2_with fail
      refine (check_part v cs p cap ⟨xc, xv⟩ xq xk _ HSM.out (show xv.length ≤ 65536 by omega) HXC.out HXM.out (HC.out _ HKR.out.drew).1 (HP.out _ HKR.out.drew).2.2).mono ?_
      rintro r w4 ⟨rfl, hk4⟩
      have HK4 := hid (HKR.out.drew.trans hk4)
      clear hk4 s0 s1 s2 s3 d0 d1
      obtain ⟨d0, d1, _⟩ := HP.out _ HK4.out
      obtain ⟨s0, s1, s2, s3⟩ := HS.out _ HK4.out
      go_wp2
      refine Plan.plQ_mk ?_ ?_
      · iterate 5 (refine Plan.chk_st rfl ?_ ?_; focus (go_big_quiet_step (fail); exact wpQuiet_nil rfl))
        exact Plan.chk_end
      refine Plan.pl_ac rfl ?_
      go_wp2_with fail
      refine (r_part v cs p cap ⟨xc, xv⟩ xq xk _ HSM.out HXM.out (HC.out _ HK4.out).1 (HP.out _ HK4.out).2.2).mono ?_
      rintro r w5 ⟨rfl, hk5⟩
      have HK5 := hid (HK4.out.trans hk5)
      clear hk5 s0 s1 s2 s3 d0 d1
      generalize partC cs ⟨xc, xv⟩ = e at *
      have g1 : ((e : Int) != (e : Int)) = false := by simp
      have g2 : (e != e) = false := by simp
      go_wp2
      refine Plan.plQ_mk Plan.chk_end ?_
      iterate 1 (refine Plan.pl_st rfl ?_; go_big_quiet_step (fail); refine wpQuiet_nil ?_)
      refine Plan.pl_end ?_
      go_wp2
      go_roundw
      case rel => exact ⟨k + 1, by omega, by go_num, HNA.out, HK5.out⟩
      case measure => simp [intOf]; omega

    · obtain rfl : k = l.length := by omega
      have HVL : Hid (∀ x ∈ l, x.vals.length ≤ 65536 ∧ ∀ y ∈ x.vals, y.fit) := hid (fun x hx => ⟨by have := HALL.out x (by rw [List.take_length]; exact hx); omega, HX.out x hx⟩)
      have g1 : decide ((l.length : Int) < (l.length : Int)) = false := decide_eq_false (by omega)
      clear HALL
      go_wp2_with fail
      clear g1
      go_loopw [8] (fun i wr => ∃ k : Nat, k ≤ cs.length ∧ i = iV k ∧ Keep (fun _ => False) w0 wr) (fun i _ => cs.length + 1 - (intOf i).toNat)
      case atStart => exact ⟨0, Nat.zero_le _, rfl, HKR.out⟩
      case round =>
        clear HKR hk hlt
        obtain ⟨k, hk, rfl, hkr⟩ := hrel
        have HKR := hid hkr
        clear hkr
        obtain ⟨t0, t1, t2, t3⟩ := HS.out _ HKR.out
        go_upto_region 13 with fail
        go_cut [59] from 48 to 84 (fun x wx => x = .bool (decide (k < cs.length ∧ k < ds.length)) ∧ wr = wx)
        case first =>
          by_cases h1 : k < cs.length
          · have g1 : decide ((k : Int) < (cs.length : Int)) = true := decide_eq_true (by omega)
            have g2 : decide (k < cs.length) = true := decide_eq_true h1
            by_cases h2 : k < ds.length
            · have g3 : decide ((k : Int) < (ds.length : Int)) = true := decide_eq_true (by omega)
              have g4 : decide (k < ds.length) = true := decide_eq_true h2
              have G := hid (decide_eq_true (⟨h1, h2⟩ : k < cs.length ∧ k < ds.length))
              go_wp2
              go_meet
              case rel => exact ⟨by rw [G.out], rfl⟩
            · have g3 : decide ((k : Int) < (ds.length : Int)) = false := decide_eq_false (by omega)
              have g4 : decide (k < ds.length) = false := decide_eq_false h2
              have G := hid (decide_eq_false (fun h => h2 h.2 : ¬ (k < cs.length ∧ k < ds.length)))
              go_wp2
              go_meet
              case rel => exact ⟨by rw [G.out], rfl⟩
          · have g1 : decide ((k : Int) < (cs.length : Int)) = false := decide_eq_false (by omega)
            have g2 : decide (k < cs.length) = false := decide_eq_false h1
            have G := hid (decide_eq_false (fun h => h1 h.1 : ¬ (k < cs.length ∧ k < ds.length)))
            go_wp2
            go_meet
            case rel => exact ⟨by rw [G.out], rfl⟩
        case rest =>
        obtain ⟨rfl, rfl⟩ := hcut
        by_cases hlt : k < cs.length ∧ k < ds.length
        · rw [decide_eq_true hlt]
          obtain ⟨hlt1, hlt2⟩ := hlt
          have g1 : decide ((k : Int) < (cs.length : Int)) = true := decide_eq_true (by omega)
          have g2 : decide (k < cs.length) = true := decide_eq_true hlt1
          have g3 : decide ((k : Int) < (ds.length : Int)) = true := decide_eq_true (by omega)
          have g4 : decide (k < ds.length) = true := decide_eq_true hlt2
          obtain ⟨c, hcc⟩ : ∃ c, cs[k]? = some c := ⟨cs[k], by simp [hlt1]⟩
          obtain ⟨d, hdd⟩ : ∃ d, ds[k]? = some d := ⟨ds[k], by simp [hlt2]⟩
          have HL := hid (HSM.out.2 c (List.mem_of_getElem? hcc))
          have hin : (0 : Int) ≤ (k : Int) ∧ (k : Int) < (cs.length : Int) := ⟨by omega, by omega⟩
          have hin2 : (0 : Int) ≤ (k : Int) ∧ (k : Int) < (ds.length : Int) := ⟨by omega, by omega⟩
          obtain ⟨b, o, cq, ck, rfl, hb, c0, c1, c2, _, hcf⟩ := CP.at (HC.out _ HKR.out.drew).1 hcc
          obtain ⟨b', o', dq, dk, rfl, hb', d0, d1, d2, _, hdf⟩ := CP.at (HC.out _ HKR.out.drew).2.1 hdd
          obtain ⟨ci, cn, cf⟩ := c
          obtain ⟨di, dn, df⟩ := d
          simp only at c0 c1 c2 d0 d1 d2 hcf hdf HL
          have HY : Hid (∀ wy, Keep (fun _ => False) wr.drew wy → (wy.cell? ⟨b, o + k * 3, none⟩ = some (.int .i64 ci) ∧ wy.cell? ⟨b, o + k * 3 + 1, none⟩ = some (.string cn) ∧ wy.cell? ⟨b, o + k * 3 + 2, none⟩ = some (.slice cq cf.length ck)) ∧ (wy.cell? ⟨b', o' + k * 3, none⟩ = some (.int .i64 di) ∧ wy.cell? ⟨b', o' + k * 3 + 1, none⟩ = some (.string dn) ∧ wy.cell? ⟨b', o' + k * 3 + 2, none⟩ = some (.slice dq df.length dk)) ∧ FP wy wy.heap.size cq cf ∧ FP wy wy.heap.size dq df) := hid (fun wy hk =>
            ⟨⟨cell_keep0 hk _ _ c0, cell_keep0 hk _ _ c1, cell_keep0 hk _ _ c2⟩, ⟨cell_keep0 hk _ _ d0, cell_keep0 hk _ _ d1, cell_keep0 hk _ _ d2⟩, FP.mono (FP.low hcf (Low.keep0 hk)) hk.size, FP.mono (FP.low hdf (Low.keep0 hk)) hk.size⟩)
          clear hcc hdd hcf hdf hb hb'
          obtain ⟨s0, s1, s2, s3⟩ := HS.out _ HKR.out.drew
          go_wp2_with fail
          clear g1 g2 g3 g4 t0 t1 t2 t3
          refine Plan.wp_region_pl [(false, 0, []), (false, 1, []), (false, 2, []), (false, 3, []), (false, 4, []), (false, 5, []), (false, 6, []), (false, 7, []), (false, 8, []), (false, 9, []), (false, 11, []), (false, 12, []), (false, 13, []), (false, 14, []), (false, 15, []), (false, 16, []), (false, 17, []), (false, 18, []), (false, 19, []), (false, 20, []), (true, 10, [20, 19, 18, 17, 16, 15, 14, 13, 12, 11]), (true, 21, []), (false, 22, [])] (by kernel_rfl) (by kernel_rfl) ?_
          iterate 20 (refine Plan.pl_st rfl ?_; go_big_quiet_step (fail); refine wpQuiet_nil ?_)
          refine Plan.pl_ac rfl ?_
          go_wp2_with fail
          refine (same_comp ⟨ci, cn, cf⟩ ⟨di, dn, df⟩ cq dq ck dk _ HL.out (HY.out _ (Keep.refl _ _)).2.2.1 (HY.out _ (Keep.refl _ _)).2.2.2).mono ?_
          rintro r w4 ⟨rfl, hk4⟩
          have HK4 := hid hk4
          clear hk4 s0 s1 s2 s3 c0 c1 c2 d0 d1 d2
          obtain ⟨⟨c0, c1, c2⟩, ⟨d0, d1, d2⟩, _, _⟩ := HY.out _ HK4.out
          obtain ⟨s0, s1, s2, s3⟩ := HS.out _ (HKR.out.drew.trans HK4.out)
          generalize hbe : decide ((⟨ci, cn, cf⟩ : Cmp) = ⟨di, dn, df⟩) = be at *
          have HBE := hid hbe
          clear hbe
          go_wp2
          refine Plan.plQ_mk ?_ ?_
          · iterate 10 (refine Plan.chk_st rfl ?_ ?_; focus (go_big_quiet_step (fail); exact wpQuiet_nil rfl))
            exact Plan.chk_end
          refine Plan.pl_ac rfl ?_
          go_wp2_with fail
          refine (r_comp ⟨ci, cn, cf⟩ ⟨di, dn, df⟩ cq dq ck dk _ HL.out (HY.out _ HK4.out).2.2.1 (HY.out _ HK4.out).2.2.2).mono ?_
          rintro r w5 ⟨rfl, hk5⟩
          rw [HBE.out]
          have HK5 := hid (HKR.out.drew.trans (HK4.out.trans hk5))
          clear hk5 s0 s1 s2 s3 c0 c1 c2 d0 d1 d2
          have g1 : (be != be) = false := by simp
          go_wp2
          refine Plan.plQ_mk Plan.chk_end ?_
          iterate 1 (refine Plan.pl_st rfl ?_; go_big_quiet_step (fail); refine wpQuiet_nil ?_)
          refine Plan.pl_end ?_
          go_wp2
          go_roundw
          case rel => exact ⟨k + 1, by omega, by go_num, HK5.out⟩
          case measure => simp [intOf]; omega

        · rw [decide_eq_false hlt]
          clear t0 t1 t2 t3 hlt
          obtain ⟨s0, s1, s2, s3⟩ := HS.out _ HKR.out.drew
          go_wp2_with fail
          refine Plan.wp_region_pl [(false, 0, []), (false, 1, []), (false, 3, []), (false, 4, []), (true, 2, [4, 3]), (true, 5, []), (false, 6, []), (false, 7, []), (false, 8, []), (false, 10, []), (true, 9, [10]), (true, 11, []), (false, 12, []), (false, 13, []), (false, 14, []), (false, 15, []), (false, 17, []), (false, 18, []), (true, 16, [18, 17]), (true, 19, []), (false, 20, []), (false, 21, []), (false, 22, [])] (by kernel_rfl) (by kernel_rfl) ?_
          iterate 4 (refine Plan.pl_st rfl ?_; go_big_quiet_step (fail); refine wpQuiet_nil ?_)
          refine Plan.pl_ac rfl ?_
          go_wp2_with fail
          refine (sch_same v u cs ds p p2 cap cap2 _ HSM.out (HC.out _ HKR.out.drew).1 (HC.out _ HKR.out.drew).2.1).mono ?_
          rintro r w4 ⟨rfl, hk4⟩
          have HK4 := hid (HKR.out.drew.trans hk4)
          clear hk4 s0 s1 s2 s3
          obtain ⟨s0, s1, s2, s3⟩ := HS.out _ HK4.out
          generalize hbe : decide (v = u ∧ cs = ds) = be at *
          have HBE := hid hbe
          clear hbe
          go_wp2
          refine Plan.plQ_mk ?_ ?_
          · iterate 2 (refine Plan.chk_st rfl ?_ ?_; focus (go_big_quiet_step (fail); exact wpQuiet_nil rfl))
            exact Plan.chk_end
          refine Plan.pl_ac rfl ?_
          go_wp2_with fail
          refine (r_same v u cs ds p p2 cap cap2 _ HSM.out (HC.out _ HK4.out).1 (HC.out _ HK4.out).2.1).mono ?_
          rintro r w5 ⟨rfl, hk5⟩
          rw [HBE.out]
          have HK5 := hid (HK4.out.trans hk5)
          clear hk5 s0 s1 s2 s3
          obtain ⟨s0, s1, s2, s3⟩ := HS.out _ HK5.out
          have g1 : (be == be) = true := by simp
          go_wp2
          refine Plan.plQ_mk Plan.chk_end ?_
          iterate 4 (refine Plan.pl_st rfl ?_; go_big_quiet_step (fail); refine wpQuiet_nil ?_)
          refine Plan.pl_ac rfl ?_
          go_wp2_with fail
          refine (sch_clone v cs p cap _ HSM.out (HC.out _ HK5.out).1).mono ?_
          rintro r w6 ⟨pa, ca, va, rfl, hca, hva, hoa, hk6⟩
          have HCA : Hid (CP w6 w6.heap.size pa cs) := hid (hva ▸ hoa.cp)
          have HK6 := hid (HK5.out.trans hk6)
          clear hk6 hca hva hoa s0 s1 s2 s3 g1
          obtain ⟨s0, s1, s2, s3⟩ := HS.out _ HK6.out
          go_wp2
          refine Plan.plQ_mk ?_ ?_
          · iterate 1 (refine Plan.chk_st rfl ?_ ?_; focus (go_big_quiet_step (fail); exact wpQuiet_nil rfl))
            exact Plan.chk_end
          refine Plan.pl_ac rfl ?_
          go_wp2_with fail
          refine (r_same v v cs cs pa p ca cap _ HSM.out HCA.out (HC.out _ HK6.out).1).mono ?_
          rintro r w7 ⟨rfl, hk7⟩
          rw [decide_eq_true (⟨rfl, rfl⟩ : v = v ∧ cs = cs)]
          have HK7 := hid (HK6.out.trans hk7)
          clear hk7 s0 s1 s2 s3
          obtain ⟨s0, s1, s2, s3⟩ := HS.out _ HK7.out
          go_wp2
          refine Plan.plQ_mk Plan.chk_end ?_
          iterate 6 (refine Plan.pl_st rfl ?_; go_big_quiet_step (fail); refine wpQuiet_nil ?_)
          refine Plan.pl_ac rfl ?_
          go_wp2_with fail
          refine (check_parts v cs p cap l q qc _ HSM.out (show l.length ≤ 65536 by omega) HQC.out HVL.out (HC.out _ HK7.out).1 (HC.out _ HK7.out).2.2).mono ?_
          rintro r w8 ⟨rfl, hk8⟩
          have HK8 := hid (HK7.out.trans hk8)
          clear hk8 s0 s1 s2 s3
          obtain ⟨s0, s1, s2, s3⟩ := HS.out _ HK8.out
          go_wp2
          refine Plan.plQ_mk ?_ ?_
          · iterate 2 (refine Plan.chk_st rfl ?_ ?_; focus (go_big_quiet_step (fail); exact wpQuiet_nil rfl))
            exact Plan.chk_end
          refine Plan.pl_ac rfl ?_
          go_wp2_with fail
          refine (r_parts v cs p cap l q qc _ HSM.out (show l.length ≤ 65536 by omega) HX.out (HC.out _ HK8.out).1 (HC.out _ HK8.out).2.2).mono ?_
          rintro r w9 ⟨rfl, hk9⟩
          have HK9 := hid (HK8.out.trans hk9)
          clear hk9 s0 s1 s2 s3
          generalize partsC cs [] l = e at *
          have g1 : ((e : Int) == (e : Int)) = true := by simp
          have g2 : (e == e) = true := by simp
          go_wp2
          refine Plan.plQ_mk Plan.chk_end ?_
          iterate 3 (refine Plan.pl_st rfl ?_; go_big_quiet_step (fail); refine wpQuiet_nil ?_)
          refine Plan.pl_end ?_
          go_wp2
          go_ret
          exact ⟨rfl, (HK0.out.trans HK9.out).below⟩

end Go.Proofs.Ythpafpgillnimaa
