/- What is proved: the law SchemaExact returns true, whatever the schema, the number and the name. -/
import Derived.Test.YthpafpgillnimaaSchExactLaw
import Derived.Test.YthpafpgillnimaaSchXor
import Derived.Test.YthpafpgillnimaaSchAwake
import Derived.Test.YthpafpgillnimaaSchGreat
import Derived.Test.YthpafpgillnimaaRegion10
import Derived.Test.YthpafpgillnimaaSchLess
namespace Go.Proofs.Ythpafpgillnimaa
open Go.RowKit Go.Proofs.Heap Go.Proofs.Sch

theorem bne_self {n : Nat} : ((n : Int) != (n : Int)) = false := by simp

set_option maxRecDepth 20000 in
set_option maxHeartbeats 8000000 in
theorem exact_true (v : Int) (p : Option Addr) (cap : Nat) (cs : List Cmp) (id : Int) (nm : ByteArray) (w : World) (hf : CP w w.heap.size p cs) :
    Calls Try.prog 3 #[.agg #[.int .i64 v, .slice p cs.length cap], .int .i64 id, .string nm] w fun r w' => r = .returned (.bool true) ∧ Below w.heap.size w w' := by
  have hk0 := (Keep.refl (fun _ => False) w).alloc (.cells #[.int .i64 v, .slice p cs.length cap] 24)
  have HB0 := hid (heap_alloc_new w (.cells #[.int .i64 v, .slice p cs.length cap] 24))
  have HF0 := hid (CP.mono (CP.low hf (Low.keep0 hk0)) hk0.size)
  have HK0 := hid hk0
  clear hf hk0
  go_enter Try.func3, Try.ntmps3
  go_upto_region 1 with fail
  generalize w.alloc (.cells #[.int .i64 v, .slice p cs.length cap] 24) = w0 at *
  have hs0 := lt_of_heap HB0.out
  generalize hsb : w.heap.size = sb at *
  have HS : Hid (∀ wy, Keep (fun _ => False) w0 wy → wy.cell? ⟨sb, 0, none⟩ = some (.int .i64 v) ∧ wy.cell? ⟨sb, 1, none⟩ = some (.slice p cs.length cap)) := hid (fun wy hk => ⟨cell_of (hk.get HB0.out (fun h => h)) (by rfl), cell_of (hk.get HB0.out (fun h => h)) (by rfl)⟩)
  have HC : Hid (∀ wy, Keep (fun _ => False) w0 wy → CP wy wy.heap.size p cs) := hid (fun wy hk => CP.mono (CP.low HF0.out (Low.keep0 hk)) hk.size)
  go_wp2_with fail
  refine (awake_true _).mono ?_
  rintro r w1 ⟨rfl, hk1⟩
  have HK1 := hid hk1
  clear hk1
  obtain ⟨s0, s1⟩ := HS.out _ HK1.out
  go_wp2_with fail
  refine (sch_great v cs p cap _ (HC.out _ HK1.out)).mono ?_
  rintro r w2 ⟨rfl, hk2⟩
  have HK2 := hid (HK1.out.trans hk2)
  clear hk2 s0 s1
  obtain ⟨s0, s1⟩ := HS.out _ HK2.out
  by_cases hfair : FairS cs
  rotate_left
  · rw [decide_eq_false hfair]
    clear hfair
    go_wp2
    go_ret
    exact ⟨rfl, (HK0.out.trans HK2.out).below⟩
  rw [decide_eq_true hfair]
  have hl30 := hfair.1
  have HSM := hid hfair.small
  clear hfair
  by_cases hnl : 100 < nm.size
  · have g1 : decide ((100 : Int) < (nm.size : Int)) = true := decide_eq_true (by omega)
    have g2 : decide (100 < nm.size) = true := decide_eq_true hnl
    go_wp2
    go_ret
    exact ⟨rfl, (HK0.out.trans HK2.out).below⟩
  have g1 : decide ((100 : Int) < (nm.size : Int)) = false := decide_eq_false (by omega)
  have g2 : decide (100 < nm.size) = false := decide_eq_false hnl
  clear s0 s1
  obtain ⟨s0, s1⟩ := HS.out _ HK2.out.drew
  have s2 := (HS.out _ HK2.out).1
  have s3 := (HS.out _ HK2.out).2
  go_wp2_with fail
  refine Plan.wp_region_pl [(false, 0, []), (false, 2, []), (true, 1, [2]), (true, 3, []), (false, 4, []), (false, 5, []), (false, 6, []), (false, 8, []), (true, 7, [8]), (true, 9, []), (false, 10, []), (false, 11, [])] (by kernel_rfl) (by kernel_rfl) ?_
  clear s2 s3 g1 g2 hnl
  iterate 2 (refine Plan.pl_st rfl ?_; go_big_quiet_step (fail); refine wpQuiet_nil ?_)
  refine Plan.pl_ac rfl ?_
  go_wp2_with fail
  refine (sch_check v cs p cap _ HSM.out (HC.out _ HK2.out.drew)).mono ?_
  rintro r w3 ⟨rfl, hk3⟩
  have HK3 := hid (HK2.out.drew.trans hk3)
  clear hk3 s0 s1
  obtain ⟨s0, s1⟩ := HS.out _ HK3.out
  go_wp2
  refine Plan.plQ_mk ?_ ?_
  · iterate 1 (refine Plan.chk_st rfl ?_ ?_; focus (go_big_quiet_step (fail); exact wpQuiet_nil rfl))
    exact Plan.chk_end
  refine Plan.pl_ac rfl ?_
  go_wp2_with fail
  refine (r_check v cs p cap _ HSM.out (HC.out _ HK3.out)).mono ?_
  rintro r w4 ⟨rfl, hk4⟩
  have HK4 := hid (HK3.out.trans hk4)
  clear hk4 s0 s1
  have g1 := @bne_self (checkC v cs)
  have g2 : (checkC v cs != checkC v cs) = false := by simp
  generalize checkC v cs = e at *
  go_wp2
  refine Plan.plQ_mk Plan.chk_end ?_
  iterate 4 (refine Plan.pl_st rfl ?_; go_big_quiet_step (fail); refine wpQuiet_nil ?_)
  refine Plan.pl_ac rfl ?_
  go_wp2_with fail
  refine (is_name nm _).mono ?_
  rintro r w_ ⟨rfl, rfl⟩
  go_wp2
  refine Plan.plQ_mk ?_ ?_
  · iterate 1 (refine Plan.chk_st rfl ?_ ?_; focus (go_big_quiet_step (fail); exact wpQuiet_nil rfl))
    exact Plan.chk_end
  refine Plan.pl_ac rfl ?_
  go_wp2_with fail
  refine (r_name nm _).mono ?_
  rintro r w_ ⟨rfl, rfl⟩
  have g3 : (nameB nm != nameB nm) = false := by simp
  generalize nameB nm = nb at *
  go_wp2
  refine Plan.plQ_mk Plan.chk_end ?_
  iterate 2 (refine Plan.pl_st rfl ?_; go_big_quiet_step (fail); refine wpQuiet_nil ?_)
  refine Plan.pl_end ?_
  clear g1 g2
  obtain ⟨s0, s1⟩ := HS.out _ HK4.out
  go_wp2_with fail
  refine (r_find id v cs p cap _ HSM.out.1 (HC.out _ HK4.out)).mono ?_
  rintro r w6 ⟨rfl, hk6⟩
  have HK6 := hid (HK4.out.trans hk6)
  clear hk6 s0 s1
  obtain ⟨s0, s1⟩ := HS.out _ HK6.out
  go_wp2_with fail
  refine (sch_find id v cs p cap _ HSM.out (HC.out _ HK6.out)).mono ?_
  rintro r w7 ⟨hfnd, hk7⟩
  obtain ⟨xi, xn, xf, xp, xz, B, rfl, hxf, hfd⟩ := hfnd.toC
  have HFND := hid hfd
  have HXL : Hid (xf.length ≤ 65536) := hid (by
    rcases hfd with ⟨_, k, _, hck⟩ | ⟨_, _, _, _, rfl⟩
    · exact HSM.out.2 _ (List.mem_of_getElem? hck)
    · simp)
  have HBX := hid (heap_alloc_new w7 (.cells #[.int .i64 xi, .string xn, .slice xp xf.length xz] 34))
  have hka := (Keep.refl (fun _ => False) w7).alloc (.cells #[.int .i64 xi, .string xn, .slice xp xf.length xz] 34)
  have hxfa := FP.mono (FP.low hxf (Low.keep0 hka)) hka.size
  have HK5 := hid ((HK6.out.trans hk7).trans hka)
  have HXF : Hid (∀ wy, Keep (fun _ => False) (w7.alloc (.cells #[.int .i64 xi, .string xn, .slice xp xf.length xz] 34)) wy → FP wy wy.heap.size xp xf) := hid (fun wy hk => FP.mono (FP.low hxfa (Low.keep0 hk)) hk.size)
  clear hfnd hfd hk7 hka hxf hxfa s0 s1
  go_upto_region 9 with fail
  generalize w7.alloc (.cells #[.int .i64 xi, .string xn, .slice xp xf.length xz] 34) = w5 at *
  generalize w7.heap.size = cb at *
  have HX : Hid (∀ wy, Keep (fun _ => False) w5 wy → wy.cell? ⟨cb, 0, none⟩ = some (.int .i64 xi) ∧ wy.cell? ⟨cb, 1, none⟩ = some (.string xn) ∧ wy.cell? ⟨cb, 2, none⟩ = some (.slice xp xf.length xz)) := hid (fun wy hk =>
    ⟨cell_of (hk.get HBX.out (fun h => h)) (by rfl), cell_of (hk.get HBX.out (fun h => h)) (by rfl), cell_of (hk.get HBX.out (fun h => h)) (by rfl)⟩)
  go_cut [7, 76] from 20 to 196 (fun _ x wx => x = .bool false ∧ Keep (fun _ => False) w5 wx)
  case first =>
    rcases HFND.out with ⟨rfl, k, hi, hck⟩ | ⟨rfl, hi, rfl, rfl, rfl⟩
    · rw [hi]
      have HCK := hid hck
      have hk65 : k < cs.length := (List.getElem?_eq_some_iff.1 hck).1
      obtain ⟨b, off, gq, gk, rfl, hb, e0, e1, e2, _, hff⟩ := CP.at (HC.out _ HK5.out.drew) hck
      have hin : (0 : Int) ≤ (k : Int) ∧ (k : Int) < (cs.length : Int) := ⟨by omega, by omega⟩
      have g1 : decide ((0 : Int) ≤ (k : Int)) = true := decide_eq_true (by omega)
      simp only at e0 e1 e2 hff
      have HFF := hid hff
      clear hck hff hi hb
      obtain ⟨s0, s1⟩ := HS.out _ HK5.out.drew
      obtain ⟨c0, c1, c2⟩ := HX.out _ (Keep.refl (fun _ => False) w5).drew
      go_wp2_with fail
      refine Plan.wp_region_pl [(false, 0, []), (false, 1, []), (false, 2, []), (false, 3, []), (false, 4, []), (false, 5, []), (false, 6, []), (false, 7, []), (false, 8, []), (false, 9, []), (false, 10, []), (false, 11, []), (false, 12, []), (true, 13, []), (false, 14, []), (false, 15, []), (false, 16, []), (false, 17, []), (false, 18, []), (false, 19, []), (false, 20, []), (false, 21, []), (false, 22, []), (true, 23, []), (false, 24, []), (false, 25, []), (false, 26, [])] (by kernel_rfl) (by kernel_rfl) ?_
      iterate 13 (refine Plan.pl_st rfl ?_; go_big_quiet_step (fail); refine wpQuiet_nil ?_)
      refine Plan.pl_ac rfl ?_
      go_wp2_with fail
      refine (r_comp ⟨xi, xn, xf⟩ ⟨xi, xn, xf⟩ xp gq xz gk _ HXL.out (HXF.out _ (Keep.refl (fun _ => False) w5).drew) HFF.out).mono ?_
      rintro r y1 ⟨rfl, hk1⟩
      rw [decide_eq_true rfl]
      have HKZ := hid ((Keep.refl (fun _ => False) w5).drew.trans hk1)
      clear hk1 s0 s1 c0 c1 c2
      go_wp2
      refine Plan.plQ_mk Plan.chk_end ?_
      iterate 9 (refine Plan.pl_st rfl ?_; go_big_quiet_step (fail); refine wpQuiet_nil ?_)
      refine Plan.pl_skip rfl (by kernel_rfl) (fun a' ha => ?_)
      simp only [Act.put, List.setIfInBounds_toArray, List.set_cons_succ, List.set_cons_zero] at ha
      subst ha
      refine Plan.plQ_mk Plan.chk_end ?_
      iterate 3 (refine Plan.pl_st rfl ?_; go_big_quiet_step (fail); refine wpQuiet_nil ?_)
      refine Plan.pl_end ?_
      go_wp2
      go_meet
      case rel => exact ⟨rfl, HKZ.out⟩
    · rw [hi]
      clear hi
      obtain ⟨s0, s1⟩ := HS.out _ HK5.out.drew
      obtain ⟨c0, c1, c2⟩ := HX.out _ (Keep.refl (fun _ => False) w5).drew
      go_wp2_with fail
      refine Plan.wp_region_pl [(false, 0, []), (false, 1, []), (false, 2, []), (false, 3, []), (false, 4, []), (false, 5, []), (false, 6, []), (false, 7, []), (false, 8, []), (false, 9, []), (false, 10, []), (false, 11, []), (false, 12, []), (true, 13, []), (false, 14, []), (false, 15, []), (false, 16, []), (false, 17, []), (false, 18, []), (false, 19, []), (false, 20, []), (false, 21, []), (false, 22, []), (true, 23, []), (false, 24, []), (false, 25, []), (false, 26, [])] (by kernel_rfl) (by kernel_rfl) ?_
      iterate 13 (refine Plan.pl_st rfl ?_; go_big_quiet_step (fail); refine wpQuiet_nil ?_)
      refine Plan.pl_skip rfl (by kernel_rfl) (fun a' ha => ?_)
      simp only [Act.put, List.setIfInBounds_toArray, List.set_cons_succ, List.set_cons_zero] at ha
      subst ha
      refine Plan.plQ_mk Plan.chk_end ?_
      iterate 9 (refine Plan.pl_st rfl ?_; go_big_quiet_step (fail); refine wpQuiet_nil ?_)
      refine Plan.pl_ac rfl ?_
      go_wp2_with fail
      refine (r_comp ⟨0, ⟨#[]⟩, []⟩ ⟨0, ⟨#[]⟩, []⟩ xp none xz 0 _ HXL.out (HXF.out _ (Keep.refl (fun _ => False) w5).drew) (.inl rfl)).mono ?_
      rintro r y1 ⟨rfl, hk1⟩
      rw [decide_eq_true rfl]
      have HKZ := hid ((Keep.refl (fun _ => False) w5).drew.trans hk1)
      clear hk1 s0 s1 c0 c1 c2
      go_wp2
      refine Plan.plQ_mk Plan.chk_end ?_
      iterate 3 (refine Plan.pl_st rfl ?_; go_big_quiet_step (fail); refine wpQuiet_nil ?_)
      refine Plan.pl_end ?_
      go_wp2
      go_meet
      case rel => exact ⟨rfl, HKZ.out⟩
  case rest =>
  obtain ⟨rfl, hkx⟩ := hcut
  have HKX := hid hkx
  clear hkx
  clear HFND
  have HKC := HKX
  have HC5 := HK5
  have hxl65 : xf.length ≤ 65536 := HXL.out
  obtain ⟨s0, s1⟩ := HS.out _ (HK5.out.trans HKX.out)
  go_wp2_with fail
  clear s0 s1
  go_loopw [10, 11] (fun j i wr => ∃ n : Nat, n ≤ cs.length ∧ i = .int .i64 ((n : Int) - 1) ∧ j = .int .i64 (idxFrom (fun c : Cmp => decide (c.name = nm)) cs n) ∧ Keep (fun _ => False) w5 wr) (fun _ i _ => (intOf i + 1).toNat)
  case atStart => exact ⟨cs.length, Nat.le_refl _, by go_num, by rw [idxFrom_end], HKX.out⟩
  case round =>
    clear HKX
    obtain ⟨n, hn, rfl, rfl, hkr⟩ := hrel
    have HKR := hid hkr
    clear hkr
    obtain ⟨s0, s1⟩ := HS.out _ (HK5.out.trans HKR.out)
    cases n with
    | succ m =>
      have hme : ((m + 1 : Nat) : Int) - 1 = (m : Int) := by omega
      rw [hme]
      have g1 : decide ((0 : Int) ≤ (m : Int)) = true := decide_eq_true (by omega)
      obtain ⟨c, hcc⟩ : ∃ c, cs[m]? = some c := ⟨cs[m], by simp [show m < cs.length by omega]⟩
      obtain ⟨b, off, fq, fk, rfl, hb, c0, c1, c2, _, _⟩ := CP.at (HC.out _ (HK5.out.trans HKR.out)) hcc
      have hin : (0 : Int) ≤ (m : Int) ∧ (m : Int) < (cs.length : Int) := ⟨by omega, by omega⟩
      have hs := seq_dec c.name nm
      by_cases he : c.name = nm
      · have G := hid (idxFrom_yes (q := fun c : Cmp => decide (c.name = nm)) hcc (decide_eq_true he))
        rw [decide_eq_true he] at hs
        clear he hcc
        go_wp2
        go_roundw
        case rel => exact ⟨m, by omega, by first | rfl | go_num, by rw [G.out], HKR.out⟩
        case measure => simp [intOf]
      · have G := hid (idxFrom_no (q := fun c : Cmp => decide (c.name = nm)) hcc (decide_eq_false he))
        rw [decide_eq_false he] at hs
        clear he hcc
        go_wp2
        go_roundw
        case rel => exact ⟨m, by omega, by first | rfl | go_num, by rw [G.out], HKR.out⟩
        case measure => simp [intOf]
    | zero =>
      rw [idxFrom_zero]
      go_wp2_with fail
      refine (sch_named nm v cs p cap _ HSM.out (HC.out _ (HK5.out.trans HKR.out))).mono ?_
      rintro r w9 ⟨hfnd, hk9⟩
      obtain ⟨di, dn, df, dp, dz, D, rfl, hdf, hfd⟩ := hfnd.toC
      have HFND := hid hfd
      have HDL : Hid (df.length ≤ 65536) := hid (by
        rcases hfd with ⟨_, k, _, hck⟩ | ⟨_, _, _, _, rfl⟩
        · exact HSM.out.2 _ (List.mem_of_getElem? hck)
        · simp)
      have HBD := hid (heap_alloc_new w9 (.cells #[.int .i64 di, .string dn, .slice dp df.length dz] 34))
      have hka := (Keep.refl (fun _ => False) w9).alloc (.cells #[.int .i64 di, .string dn, .slice dp df.length dz] 34)
      have hdfa := FP.mono (FP.low hdf (Low.keep0 hka)) hka.size
      have HKA := hid ((HKR.out.trans hk9).trans hka)
      have HDF : Hid (∀ wy, Keep (fun _ => False) (w9.alloc (.cells #[.int .i64 di, .string dn, .slice dp df.length dz] 34)) wy → FP wy wy.heap.size dp df) := hid (fun wy hk => FP.mono (FP.low hdfa (Low.keep0 hk)) hk.size)
      clear hfnd hfd hk9 hka hdf hdfa s0 s1 hn
      go_upto_region 18 with fail
      generalize w9.alloc (.cells #[.int .i64 di, .string dn, .slice dp df.length dz] 34) = wb at *
      generalize w9.heap.size = db at *
      have HY : Hid (∀ wy, Keep (fun _ => False) wb wy → wy.cell? ⟨db, 0, none⟩ = some (.int .i64 di) ∧ wy.cell? ⟨db, 1, none⟩ = some (.string dn) ∧ wy.cell? ⟨db, 2, none⟩ = some (.slice dp df.length dz)) := hid (fun wy hk =>
        ⟨cell_of (hk.get HBD.out (fun h => h)) (by rfl), cell_of (hk.get HBD.out (fun h => h)) (by rfl), cell_of (hk.get HBD.out (fun h => h)) (by rfl)⟩)
      have HKW := hid (HK5.out.trans HKA.out)
      go_cut [10, 126] from 20 to 196 (fun _ x wx => x = .bool false ∧ Keep (fun _ => False) wb wx)
      case first =>
        rcases HFND.out with ⟨rfl, k, hi, hck⟩ | ⟨rfl, hi, rfl, rfl, rfl⟩
        · rw [hi]
          have HCK := hid hck
          have hk65 : k < cs.length := (List.getElem?_eq_some_iff.1 hck).1
          obtain ⟨b, off, gq, gk, rfl, hb, e0, e1, e2, _, hff⟩ := CP.at (HC.out _ HKW.out.drew) hck
          have hin : (0 : Int) ≤ (k : Int) ∧ (k : Int) < (cs.length : Int) := ⟨by omega, by omega⟩
          have g1 : decide ((0 : Int) ≤ (k : Int)) = true := decide_eq_true (by omega)
          simp only at e0 e1 e2 hff
          have HFF := hid hff
          clear hck hff hi hb
          obtain ⟨s0, s1⟩ := HS.out _ HKW.out.drew
          obtain ⟨c0, c1, c2⟩ := HY.out _ (Keep.refl (fun _ => False) wb).drew
          go_wp2_with fail
          refine Plan.wp_region_pl [(false, 0, []), (false, 1, []), (false, 2, []), (false, 3, []), (false, 4, []), (false, 5, []), (false, 6, []), (false, 7, []), (false, 8, []), (false, 9, []), (false, 10, []), (false, 11, []), (false, 12, []), (true, 13, []), (false, 14, []), (false, 15, []), (false, 16, []), (false, 17, []), (false, 18, []), (false, 19, []), (false, 20, []), (false, 21, []), (false, 22, []), (true, 23, []), (false, 24, []), (false, 25, []), (false, 26, [])] (by kernel_rfl) (by kernel_rfl) ?_
          iterate 13 (refine Plan.pl_st rfl ?_; go_big_quiet_step (fail); refine wpQuiet_nil ?_)
          refine Plan.pl_ac rfl ?_
          go_wp2_with fail
          refine (r_comp ⟨di, dn, df⟩ ⟨di, dn, df⟩ dp gq dz gk _ HDL.out (HDF.out _ (Keep.refl (fun _ => False) wb).drew) HFF.out).mono ?_
          rintro r y1 ⟨rfl, hk1⟩
          rw [decide_eq_true rfl]
          have HKZ := hid ((Keep.refl (fun _ => False) wb).drew.trans hk1)
          clear hk1 s0 s1 c0 c1 c2
          go_wp2
          refine Plan.plQ_mk Plan.chk_end ?_
          iterate 9 (refine Plan.pl_st rfl ?_; go_big_quiet_step (fail); refine wpQuiet_nil ?_)
          refine Plan.pl_skip rfl (by kernel_rfl) (fun a' ha => ?_)
          simp only [Act.put, List.setIfInBounds_toArray, List.set_cons_succ, List.set_cons_zero] at ha
          subst ha
          refine Plan.plQ_mk Plan.chk_end ?_
          iterate 3 (refine Plan.pl_st rfl ?_; go_big_quiet_step (fail); refine wpQuiet_nil ?_)
          refine Plan.pl_end ?_
          go_wp2
          go_meet
          case rel => exact ⟨rfl, HKZ.out⟩
        · rw [hi]
          clear hi
          obtain ⟨s0, s1⟩ := HS.out _ HKW.out.drew
          obtain ⟨c0, c1, c2⟩ := HY.out _ (Keep.refl (fun _ => False) wb).drew
          go_wp2_with fail
          refine Plan.wp_region_pl [(false, 0, []), (false, 1, []), (false, 2, []), (false, 3, []), (false, 4, []), (false, 5, []), (false, 6, []), (false, 7, []), (false, 8, []), (false, 9, []), (false, 10, []), (false, 11, []), (false, 12, []), (true, 13, []), (false, 14, []), (false, 15, []), (false, 16, []), (false, 17, []), (false, 18, []), (false, 19, []), (false, 20, []), (false, 21, []), (false, 22, []), (true, 23, []), (false, 24, []), (false, 25, []), (false, 26, [])] (by kernel_rfl) (by kernel_rfl) ?_
          iterate 13 (refine Plan.pl_st rfl ?_; go_big_quiet_step (fail); refine wpQuiet_nil ?_)
          refine Plan.pl_skip rfl (by kernel_rfl) (fun a' ha => ?_)
          simp only [Act.put, List.setIfInBounds_toArray, List.set_cons_succ, List.set_cons_zero] at ha
          subst ha
          refine Plan.plQ_mk Plan.chk_end ?_
          iterate 9 (refine Plan.pl_st rfl ?_; go_big_quiet_step (fail); refine wpQuiet_nil ?_)
          refine Plan.pl_ac rfl ?_
          go_wp2_with fail
          refine (r_comp ⟨0, ⟨#[]⟩, []⟩ ⟨0, ⟨#[]⟩, []⟩ dp none dz 0 _ HDL.out (HDF.out _ (Keep.refl (fun _ => False) wb).drew) (.inl rfl)).mono ?_
          rintro r y1 ⟨rfl, hk1⟩
          rw [decide_eq_true rfl]
          have HKZ := hid ((Keep.refl (fun _ => False) wb).drew.trans hk1)
          clear hk1 s0 s1 c0 c1 c2
          go_wp2
          refine Plan.plQ_mk Plan.chk_end ?_
          iterate 3 (refine Plan.pl_st rfl ?_; go_big_quiet_step (fail); refine wpQuiet_nil ?_)
          refine Plan.pl_end ?_
          go_wp2
          go_meet
          case rel => exact ⟨rfl, HKZ.out⟩
      case rest =>
      obtain ⟨rfl, hkx⟩ := hcut
      have HKV := hid hkx
      clear hkx
      clear HFND HY HDF HDL HBD
      have HKB := hid (HKA.out.trans HKV.out)
      clear HKA HKV HKR HKW
      obtain ⟨s0, s1⟩ := HS.out _ (HK5.out.trans HKB.out)
      obtain ⟨c0, c1, c2⟩ := HX.out _ HKB.out
      go_wp2_with fail
      clear s0 s1 c0 c1 c2
      go_loopw [14, 15] (fun j i wr => ∃ n : Nat, n ≤ xf.length ∧ i = .int .i64 ((n : Int) - 1) ∧ j = .int .i64 (idxFrom (fun f : Fld => decide (f.name = nm)) xf n) ∧ Keep (fun _ => False) w5 wr) (fun _ i _ => (intOf i + 1).toNat)
      case atStart => exact ⟨xf.length, Nat.le_refl _, by go_num, by rw [idxFrom_end], HKB.out⟩
      case round =>
        clear HKB
        obtain ⟨n, hn, rfl, rfl, hkr⟩ := hrel
        have HKR := hid hkr
        clear hkr
        obtain ⟨s0, s1⟩ := HS.out _ (HK5.out.trans HKR.out)
        obtain ⟨c0, c1, c2⟩ := HX.out _ HKR.out
        cases n with
        | succ m =>
          have hme : ((m + 1 : Nat) : Int) - 1 = (m : Int) := by omega
          rw [hme]
          have g1 : decide ((0 : Int) ≤ (m : Int)) = true := decide_eq_true (by omega)
          obtain ⟨f, hff⟩ : ∃ f, xf[m]? = some f := ⟨xf[m], by simp [show m < xf.length by omega]⟩
          obtain ⟨b, off, rfl, hb, e0, e1, e2⟩ := FP.at (HXF.out _ HKR.out) hff
          have hin : (0 : Int) ≤ (m : Int) ∧ (m : Int) < (xf.length : Int) := ⟨by omega, by omega⟩
          have hs := seq_dec f.name nm
          by_cases he : f.name = nm
          · have G := hid (idxFrom_yes (q := fun f : Fld => decide (f.name = nm)) hff (decide_eq_true he))
            rw [decide_eq_true he] at hs
            clear he hff
            go_wp2
            go_roundw
            case rel => exact ⟨m, by omega, by first | rfl | go_num, by rw [G.out], HKR.out⟩
            case measure => simp [intOf]
          · have G := hid (idxFrom_no (q := fun f : Fld => decide (f.name = nm)) hff (decide_eq_false he))
            rw [decide_eq_false he] at hs
            clear he hff
            go_wp2
            go_roundw
            case rel => exact ⟨m, by omega, by first | rfl | go_num, by rw [G.out], HKR.out⟩
            case measure => simp [intOf]
        | zero =>
          rw [idxFrom_zero]
          go_wp2_with fail
          refine (field_named ⟨xi, xn, xf⟩ nm xp xz _ hxl65 (HXF.out _ HKR.out)).mono ?_
          rintro r wf ⟨hfn, hkf⟩
          have HFN := hid hfn
          have HKF := hid (HKR.out.trans hkf)
          clear hfn hkf s0 s1 c0 c1 c2 hn
          obtain ⟨s0, s1⟩ := HS.out _ (HK5.out.trans HKF.out)
          obtain ⟨n, B, rfl, hnb⟩ : ∃ (n : Int) (B : Bool), r = .returned (.tuple #[.int .i64 n, .bool B]) ∧ ((B = false ∧ n = 0 ∧ idxI (fun f : Fld => decide (f.name = nm)) xf = -1) ∨ (B = true ∧ idxI (fun f : Fld => decide (f.name = nm)) xf = n ∧ 0 ≤ n)) := by
            rcases HFN.out with ⟨h1, rfl⟩ | ⟨k, h1, _, rfl⟩
            · exact ⟨0, false, rfl, .inl ⟨rfl, rfl, h1⟩⟩
            · exact ⟨(k : Int), true, rfl, .inr ⟨rfl, h1, by omega⟩⟩
          have HNB := hid hnb
          clear hnb HFN
          go_wp2_with fail
          refine (sch_ids v cs p cap _ HSM.out.1 (HC.out _ (HK5.out.trans HKF.out))).mono ?_
          rintro r wi ⟨lp, lc, rfl, hown, hki⟩
          have HOW := hid hown
          have HKI := hid (HKF.out.trans hki)
          clear hown hki s0 s1
          obtain ⟨s0, s1⟩ := HS.out _ (HK5.out.trans HKI.out)
          generalize hix : idxI (fun f : Fld => decide (f.name = nm)) xf = ix at *
          go_upto_region 28 with fail
          go_cut [16, 17, 179] from 20 to 196 (fun _ _ x wx => x = .bool false ∧ wi = wx)
          case first =>
            rcases HNB.out with ⟨rfl, rfl, h1⟩ | ⟨rfl, h1, h2⟩
            · subst h1
              go_wp2
              go_meet
              case rel => exact ⟨rfl, rfl⟩
            · subst h1
              have g1 : decide ((0 : Int) ≤ ix) = true := decide_eq_true h2
              have g2 : (ix != ix) = false := by simp
              go_wp2
              go_meet
              case rel => exact ⟨rfl, rfl⟩
          case rest =>
          obtain ⟨rfl, rfl⟩ := hcut
          go_wp2_with fail
          clear s0 s1
          go_loopw [19] (fun i wr => ∃ k : Nat, k ≤ cs.length ∧ i = iV k ∧ Keep (fun _ => False) wi wr) (fun i _ => cs.length + 1 - (intOf i).toNat)
          case atStart => exact ⟨0, Nat.zero_le _, rfl, Keep.refl _ _⟩
          case round =>
            obtain ⟨k, hk, rfl, hkr⟩ := hrel
            have HKQ := hid hkr
            have HKT := hid (HK5.out.trans (HKI.out.trans hkr))
            clear hkr
            by_cases hlt : k < cs.length
            · obtain ⟨c, hcc⟩ : ∃ c, cs[k]? = some c := ⟨cs[k], by simp [hlt]⟩
              obtain ⟨s0, s1⟩ := HS.out _ HKT.out.drew
              obtain ⟨b, off, fq, fk, rfl, hb, e0, e1, e2, _, _⟩ := CP.at (HC.out _ HKT.out.drew) hcc
              have hin : (0 : Int) ≤ (k : Int) ∧ (k : Int) < (cs.length : Int) := ⟨by omega, by omega⟩
              obtain ⟨lg, rfl⟩ := owns_some HOW.out (by omega)
              have hlc : wi.cell? ⟨lg, k, none⟩ = some (.int .i64 c.id) := by
                have := HOW.out.cells (g := lg) rfl k (.int .i64 c.id) (by rw [List.getElem?_map, hcc]; rfl)
                have hadd : (⟨lg, 0, none⟩ : Addr).add k = ⟨lg, k, none⟩ := by unfold Addr.add; split <;> simp_all
                rwa [hadd] at this
              have hlc2 := cell_keep0 HKQ.out.drew _ _ hlc
              have g1 : (c.id != c.id) = false := by simp
              clear hlc hcc
              go_wp2_with fail
              refine Plan.wp_region_pl [(false, 0, []), (false, 1, []), (false, 2, []), (false, 3, []), (false, 4, []), (false, 5, []), (false, 6, []), (false, 7, []), (false, 8, []), (false, 9, []), (false, 10, [])] (by kernel_rfl) (by kernel_rfl) ?_
              iterate 11 (refine Plan.pl_st rfl ?_; go_big_quiet_step (fail); refine wpQuiet_nil ?_)

              refine Plan.pl_end ?_
              go_wp2
              go_roundw
              case rel => exact ⟨k + 1, by omega, by go_num, HKQ.out.drew⟩
              case measure => simp [intOf]; omega
            · obtain rfl : k = cs.length := by omega
              have g1 : decide ((cs.length : Int) < (cs.length : Int)) = false := decide_eq_false (by omega)
              go_wp2
              go_ret
              exact ⟨rfl, (HK0.out.trans HKT.out).below⟩
end Go.Proofs.Ythpafpgillnimaa
