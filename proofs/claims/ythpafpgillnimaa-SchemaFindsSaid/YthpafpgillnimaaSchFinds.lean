/- What is proved: the law SchemaFinds returns true, whatever the schema and the numbers. -/
import Derived.Test.YthpafpgillnimaaSchAt
import Derived.Test.YthpafpgillnimaaSchXor
import Derived.Test.YthpafpgillnimaaSchAwake
import Derived.Test.YthpafpgillnimaaSchGreat
import Derived.Test.YthpafpgillnimaaSchClones
import Derived.Test.YthpafpgillnimaaSchLess
namespace Go.Proofs.Ythpafpgillnimaa
open Go.RowKit Go.Proofs.Heap Go.Proofs.Sch

theorem any_next {α : Type} (q : α → Bool) {l : List α} {k : Nat} {x : α} (h : l[k]? = some x) : (l.take (k + 1)).any q = ((l.take k).any q || q x) := by
  rw [take_next h, List.any_append]
  simp

set_option maxRecDepth 20000 in
set_option maxHeartbeats 8000000 in
theorem finds_true (v : Int) (p : Option Addr) (cap : Nat) (cs : List Cmp) (id at_ : Int) (w : World) (hcap : cs.length ≤ cap) (hf : CP w w.heap.size p cs) :
    Calls Try.prog 5 #[.agg #[.int .i64 v, .slice p cs.length cap], .int .i64 id, .int .i64 at_] w fun r w' => r = .returned (.bool true) ∧ Below w.heap.size w w' := by
  have hk0 := (Keep.refl (fun _ => False) w).alloc (.cells #[.int .i64 v, .slice p cs.length cap] 24)
  have HB0 := hid (heap_alloc_new w (.cells #[.int .i64 v, .slice p cs.length cap] 24))
  have HF0 := hid (CP.mono (CP.low hf (Low.keep0 hk0)) hk0.size)
  have HK0 := hid hk0
  clear hf hk0
  go_enter Try.func5, Try.ntmps5
  go_upto_region 1 with fail
  generalize w.alloc (.cells #[.int .i64 v, .slice p cs.length cap] 24) = w0 at *
  have hs0 := lt_of_heap HB0.out
  generalize hsb : w.heap.size = sb at *
  have HS : Hid (∀ wy, Keep (fun _ => False) w0 wy → wy.cell? ⟨sb, 0, none⟩ = some (.int .i64 v) ∧ wy.cell? ⟨sb, 1, none⟩ = some (.slice p cs.length cap)) := hid (fun wy hk => ⟨cell_of (hk.get HB0.out (fun h => h)) (by rfl), cell_of (hk.get HB0.out (fun h => h)) (by rfl)⟩)
  have HC : Hid (∀ wy, Keep (fun _ => False) w0 wy → CP wy wy.heap.size p cs) := hid (fun wy hk => CP.mono (CP.low HF0.out (Low.keep0 hk)) hk.size)
  go_wp2_with fail
  refine (awake_true _).mono ?_
  rintro r w1 ⟨rfl, hk1⟩
  have HK1 := hid hk1
  clear hk1
  obtain ⟨s0, s1⟩ := HS.out _ HK1.out
  go_wp2_with fail
  refine (sch_great v cs p cap _ (HC.out _ HK1.out)).mono ?_
  rintro r w2 ⟨rfl, hk2⟩
  have HK2 := hid (HK1.out.trans hk2)
  clear hk2 s0 s1
  obtain ⟨s0, s1⟩ := HS.out _ HK2.out
  by_cases hfair : FairS cs
  rotate_left
  · rw [decide_eq_false hfair]
    clear hfair
    go_wp2
    go_ret
    exact ⟨rfl, (HK0.out.trans HK2.out).below⟩
  rw [decide_eq_true hfair]
  have hl30 := hfair.1
  have HSM := hid hfair.small
  have HFA := hid hfair
  clear hfair
  go_wp2_with fail
  refine (sch_check v cs p cap _ HSM.out (HC.out _ HK2.out)).mono ?_
  rintro r w3 ⟨rfl, hk3⟩
  have HK3 := hid (HK2.out.trans hk3)
  clear hk3 s0 s1
  by_cases hck : checkC v cs = 0
  rotate_left
  · generalize checkC v cs = e at *
    have g1 : ((e : Int) != 0) = true := by simp only [bne, beq_eq_false_iff_ne.2 (show (e : Int) ≠ 0 by omega)]; rfl
    have g2 : (e != 0) = true := by simp only [bne, beq_eq_false_iff_ne.2 hck]; rfl
    have g3 : ((e : Int) == 0) = false := beq_eq_false_iff_ne.2 (by omega)
    have g4 : (e == 0) = false := beq_eq_false_iff_ne.2 hck
    clear hck
    go_wp2
    go_ret
    exact ⟨rfl, (HK0.out.trans HK3.out).below⟩
  have HG := hid ((checkC_iff v cs).1 hck)
  have HCK := hid hck
  rw [hck]
  clear hck
  go_wp2_with fail
  go_loopw [7, 8, 9, 10, 11, 12, 13, 14, 15, 16] (fun h i _ _ _ _ _ _ _ _ wr => ∃ k : Nat, k ≤ cs.length ∧ h = .bool ((cs.take k).any (fun c => decide (c.id = id))) ∧ i = iV k ∧ Keep (fun _ => False) w0 wr) (fun _ i _ _ _ _ _ _ _ _ _ => cs.length + 1 - (intOf i).toNat)
  case atStart => exact ⟨0, Nat.zero_le _, rfl, rfl, HK3.out⟩
  case round =>
    clear HK1 HK2 HK3
    obtain ⟨k, hk, rfl, rfl, hkr⟩ := hrel
    have HKR := hid hkr
    clear hkr
    obtain ⟨s0, s1⟩ := HS.out _ HKR.out
    by_cases hlt : k < cs.length
    · obtain ⟨c, hck⟩ : ∃ c, cs[k]? = some c := ⟨cs[k], by simp [hlt]⟩
      have HN := hid (any_next (fun c : Cmp => decide (c.id = id)) hck)
      have HCM := hid hck
      have HMEM := hid (List.mem_of_getElem? hck)
      have HL := hid (HSM.out.2 c (List.mem_of_getElem? hck))
      have HNB := hid (HG.out.2.1 c (List.mem_of_getElem? hck)).2.2.1
      obtain ⟨b, off, fq, fk, rfl, hb, c0, c1, c2, _, hff⟩ := CP.at (HC.out _ HKR.out) hck
      have hin : (0 : Int) ≤ (k : Int) ∧ (k : Int) < (cs.length : Int) := ⟨by omega, by omega⟩
      have HFF := hid hff
      clear hck hff
      obtain ⟨ci, cn, fs⟩ := c
      simp only at c0 c1 c2
      have HBC := hid (heap_alloc_new wr (.cells #[.int .i64 ci, .string cn, .slice fq fs.length fk] 34))
      have hk5 := (Keep.refl (fun _ => False) wr).alloc (.cells #[.int .i64 ci, .string cn, .slice fq fs.length fk] 34)
      have HF5 := hid (FP.mono (FP.low HFF.out (Low.keep0 hk5)) hk5.size)
      have HK5 := hid (HKR.out.trans hk5)
      clear hk5 HFF
      go_upto_region 10 with fail
      generalize wr.alloc (.cells #[.int .i64 ci, .string cn, .slice fq fs.length fk] 34) = w5 at *
      generalize wr.heap.size = cb at *
      clear c0 c1 c2 s0 s1 hb HKR
      obtain ⟨s0, s1⟩ := HS.out _ HK5.out
      have c0 : w5.cell? ⟨cb, 0, none⟩ = some (.int .i64 ci) := cell_of HBC.out (by rfl)
      have c1 : w5.cell? ⟨cb, 1, none⟩ = some (.string cn) := cell_of HBC.out (by rfl)
      have c2 : w5.cell? ⟨cb, 2, none⟩ = some (.slice fq fs.length fk) := cell_of HBC.out (by rfl)
      generalize hBe : (cs.take k).any (fun c => decide (c.id = id)) = B at *
      clear hBe
      go_cut [7] from 30 to 111 (fun h wx => h = .bool (B || decide (ci = id)) ∧ w5 = wx)
      case first =>
        cases B
        · by_cases he : ci = id
          · have g1 : (ci == id) = true := beq_iff_eq.2 he
            have HE := hid he
            clear he
            go_wp2
            go_meet
            case rel => exact ⟨by rw [decide_eq_true HE.out]; rfl, rfl⟩
          · have g1 : (ci == id) = false := beq_eq_false_iff_ne.2 he
            have HE := hid he
            clear he
            go_wp2
            go_meet
            case rel => exact ⟨by rw [decide_eq_false HE.out]; rfl, rfl⟩
        · go_wp2
          go_meet
          case rel => exact ⟨rfl, rfl⟩
      case rest =>
      obtain ⟨rfl, rfl⟩ := hcut
      have hk5 := Keep.refl (fun _ => False) w5
      have HW : Hid (∀ wy, Keep (fun _ => False) w5 wy → (wy.cell? ⟨sb, 0, none⟩ = some (.int .i64 v) ∧ wy.cell? ⟨sb, 1, none⟩ = some (.slice (some ⟨b, off, none⟩) cs.length cap)) ∧ wy.cell? ⟨cb, 0, none⟩ = some (.int .i64 ci) ∧ wy.cell? ⟨cb, 1, none⟩ = some (.string cn) ∧ wy.cell? ⟨cb, 2, none⟩ = some (.slice fq fs.length fk)) := hid (fun wy hk =>
        ⟨HS.out _ (HK5.out.trans hk), cell_of (hk.get HBC.out (fun h => h)) (by rfl), cell_of (hk.get HBC.out (fun h => h)) (by rfl), cell_of (hk.get HBC.out (fun h => h)) (by rfl)⟩)
      have HD : Hid (∀ wy, Keep (fun _ => False) w5 wy → CP wy wy.heap.size (some ⟨b, off, none⟩) cs ∧ FP wy wy.heap.size fq fs) := hid (fun wy hk => ⟨HC.out _ (HK5.out.trans hk), FP.mono (FP.low HF5.out (Low.keep0 hk)) hk.size⟩)
      go_wp2_with fail
      refine (find_at HG.out HCM.out v _ cap _ HSM.out (HD.out _ hk5).1).mono ?_
      rintro r w6 ⟨q1, z1, rfl, hf1, hk6⟩
      have hk6' := hk6.alloc (.cells #[.int .i64 ci, .string cn, .slice q1 fs.length z1] 34)
      have hka := (Keep.refl (fun _ => False) w6).alloc (.cells #[.int .i64 ci, .string cn, .slice q1 fs.length z1] 34)
      have HB1 := hid (heap_alloc_new w6 (.cells #[.int .i64 ci, .string cn, .slice q1 fs.length z1] 34))
      have HF1 := hid (FP.mono (FP.low hf1 (Low.keep0 hka)) hka.size)
      have HK6 := hid (hk5.trans hk6')
      clear hk6 hk6' hka hf1 hk5 s0 s1 c0 c1 c2
      go_upto_region 12 with fail
      generalize w6.alloc (.cells #[.int .i64 ci, .string cn, .slice q1 fs.length z1] 34) = w7 at *
      generalize w6.heap.size = d1 at *
      obtain ⟨⟨s0, s1⟩, c0, c1, c2⟩ := HW.out _ HK6.out
      go_wp2_with fail
      refine (named_at HG.out HCM.out v _ cap _ HSM.out (HD.out _ HK6.out).1).mono ?_
      rintro r w8 ⟨q2, z2, rfl, hf2, hk8⟩
      have hk8' := hk8.alloc (.cells #[.int .i64 ci, .string cn, .slice q2 fs.length z2] 34)
      have hka := (Keep.refl (fun _ => False) w8).alloc (.cells #[.int .i64 ci, .string cn, .slice q2 fs.length z2] 34)
      have HB2 := hid (heap_alloc_new w8 (.cells #[.int .i64 ci, .string cn, .slice q2 fs.length z2] 34))
      have HF2 := hid (FP.mono (FP.low hf2 (Low.keep0 hka)) hka.size)
      have HB1' := hid (hk8'.get HB1.out (fun h => h))
      have HF1' := hid (FP.mono (FP.low HF1.out (Low.keep0 hk8')) hk8'.size)
      have HK8 := hid (HK6.out.trans hk8')
      clear hk8 hk8' hka hf2 s0 s1 c0 c1 c2 HB1 HF1 HK6
      go_upto_region 13 with fail
      generalize w8.alloc (.cells #[.int .i64 ci, .string cn, .slice q2 fs.length z2] 34) = w9 at *
      generalize w8.heap.size = d2 at *
      obtain ⟨⟨s0, s1⟩, c0, c1, c2⟩ := HW.out _ HK8.out
      have a0 : w9.cell? ⟨d1, 0, none⟩ = some (.int .i64 ci) := cell_of HB1'.out (by rfl)
      have a1 : w9.cell? ⟨d1, 1, none⟩ = some (.string cn) := cell_of HB1'.out (by rfl)
      have a2 : w9.cell? ⟨d1, 2, none⟩ = some (.slice q1 fs.length z1) := cell_of HB1'.out (by rfl)
      go_wp2_with fail
      refine (same_comp ⟨ci, cn, fs⟩ ⟨ci, cn, fs⟩ q1 fq z1 fk _ HL.out HF1'.out (HD.out _ HK8.out).2).mono ?_
      rintro r w10 ⟨rfl, hk10⟩
      rw [decide_eq_true (rfl : (⟨ci, cn, fs⟩ : Cmp) = ⟨ci, cn, fs⟩)]
      have HB2' := hid (hk10.get HB2.out (fun h => h))
      have HF2' := hid (FP.mono (FP.low HF2.out (Low.keep0 hk10)) hk10.size)
      have HK10 := hid (HK8.out.trans hk10)
      clear hk10 s0 s1 c0 c1 c2 a0 a1 a2 HB2 HF2 HK8 HB1' HF1'
      obtain ⟨⟨s0, s1⟩, c0, c1, c2⟩ := HW.out _ HK10.out
      have a0 : w10.cell? ⟨d2, 0, none⟩ = some (.int .i64 ci) := cell_of HB2'.out (by rfl)
      have a1 : w10.cell? ⟨d2, 1, none⟩ = some (.string cn) := cell_of HB2'.out (by rfl)
      have a2 : w10.cell? ⟨d2, 2, none⟩ = some (.slice q2 fs.length z2) := cell_of HB2'.out (by rfl)
      go_wp2_with fail
      refine (same_comp ⟨ci, cn, fs⟩ ⟨ci, cn, fs⟩ q2 fq z2 fk _ HL.out HF2'.out (HD.out _ HK10.out).2).mono ?_
      rintro r w11 ⟨rfl, hk11⟩
      rw [decide_eq_true (rfl : (⟨ci, cn, fs⟩ : Cmp) = ⟨ci, cn, fs⟩)]
      have HK11 := hid (HK10.out.trans hk11)
      clear hk11 s0 s1 c0 c1 c2 a0 a1 a2 HB2' HF2' HK10
      obtain ⟨⟨s0, s1⟩, c0, c1, c2⟩ := HW.out _ HK11.out
      go_wp2_with fail
      refine (is_name cn _).mono ?_
      rintro r w_ ⟨rfl, rfl⟩
      rw [HNB.out]
      go_wp2_with fail
      have hl65 : fs.length ≤ 65536 := HL.out
      clear s0 s1 c0 c1 c2
      go_loopw [14, 15, 16] (fun i _ _ wy => ∃ j : Nat, j ≤ fs.length ∧ i = iV j ∧ Keep (fun _ => False) w5 wy) (fun i _ _ _ => fs.length + 1 - (intOf i).toNat)
      case atStart => exact ⟨0, Nat.zero_le _, rfl, HK11.out⟩
      case round =>
        clear HK11
        obtain ⟨j, hj, rfl, hkj⟩ := hrel
        by_cases hjt : j < fs.length
        · obtain ⟨f, hfk⟩ : ∃ f, fs[j]? = some f := ⟨fs[j], by simp [hjt]⟩
          obtain ⟨fn, kd, ct⟩ := f
          have hkd := hkj.drew
          generalize hwr : wr.drew = wd at *
          have HKJ := hid hkd
          have HFJ := hid hfk
          obtain ⟨⟨s0, s1⟩, c0, c1, c2⟩ := HW.out _ hkj
          have hin2 : (0 : Int) ≤ (j : Int) ∧ (j : Int) < (fs.length : Int) := ⟨by omega, by omega⟩
          obtain ⟨b2, off2, rfl, hb2, e0, e1, e2⟩ := FP.at (HD.out _ hkj).2 hfk
          subst hwr
          clear hkd hfk e1 e2 hb2
          simp only at e0
          go_wp2_with fail
          refine Plan.wp_region_pl [(false, 0, []), (false, 1, []), (false, 2, []), (false, 3, []), (false, 4, []), (false, 5, []), (false, 6, []), (true, 7, []), (false, 8, []), (false, 9, []), (false, 10, []), (false, 11, []), (false, 12, [])] (by kernel_rfl) (by kernel_rfl) ?_
          iterate 7 (refine Plan.pl_st rfl ?_; go_big_quiet_step (fail); refine wpQuiet_nil ?_)
          refine Plan.pl_ac rfl ?_
          go_wp2_with fail
          refine (field_at HG.out HMEM.out HFJ.out _ fk _ HL.out (HD.out _ HKJ.out).2).mono ?_
          rintro r w12 ⟨rfl, hk12⟩
          have HK12 := hid (HKJ.out.trans hk12)
          have g1 : ((j : Int) != (j : Int)) = false := by simp
          have g2 : (j != j) = false := by simp
          clear hk12 s0 s1 c0 c1 c2 hkj HKJ HFJ e0
          go_wp2
          refine Plan.plQ_mk ?_ ?_
          · exact Plan.chk_end
          iterate 5 (refine Plan.pl_st rfl ?_; go_big_quiet_step (fail); refine wpQuiet_nil ?_)
          refine Plan.pl_end ?_
          go_wp2
          go_roundw
          case rel => exact ⟨j + 1, by omega, by go_num, HK12.out⟩
          case measure => simp [intOf]; omega
        · obtain rfl : j = fs.length := by omega
          obtain ⟨⟨s0, s1⟩, c0, c1, c2⟩ := HW.out _ hkj
          have HKJ := hid hkj
          have g1 : decide ((fs.length : Int) < (fs.length : Int)) = false := decide_eq_false (by omega)
          clear hkj hj
          go_wp2
          go_roundw
          case rel => exact ⟨k + 1, by omega, by rw [HN.out], by go_num, HK5.out.trans HKJ.out⟩
          case measure => simp [intOf]; omega
    · obtain rfl : k = cs.length := by omega
      rw [List.take_length]
      generalize hB : cs.any (fun c => decide (c.id = id)) = B at *
      clear hk hlt
      go_wp2_with fail
      refine (find_any id v cs p cap _ HSM.out (HC.out _ HKR.out)).mono ?_
      rintro r w13 ⟨fa, fb, fq, fn, fz, rfl, hk13⟩
      rw [hB]
      have hk13' := (HKR.out.trans hk13).alloc (.cells #[.int .i64 fa, .string fb, .slice fq fn fz] 34)
      have HK13 := hid hk13'
      clear hk13 hk13' s0 s1 hB
      go_upto_region 22 with fail
      generalize w13.alloc (.cells #[.int .i64 fa, .string fb, .slice fq fn fz] 34) = w14 at *
      generalize w13.heap.size = fbx at *
      obtain ⟨s0, s1⟩ := HS.out _ HK13.out
      have g1 : (B != B) = false := by simp
      have g2 : (B == B) = true := by simp
      by_cases hz : cs.length = 0
      · have g3 : ((cs.length : Int) == 0) = true := beq_iff_eq.2 (by omega)
        have g4 : (cs.length == 0) = true := beq_iff_eq.2 hz
        clear hz
        go_wp2
        go_ret
        exact ⟨rfl, (HK0.out.trans HK13.out).below⟩
      have g3 : ((cs.length : Int) == 0) = false := beq_eq_false_iff_ne.2 (by omega)
      have g4 : (cs.length == 0) = false := beq_eq_false_iff_ne.2 hz
      obtain ⟨k, hkq, hkl⟩ := mod_val at_ cs.length (by omega) (by omega)
      obtain ⟨b, off, rfl⟩ : ∃ b off, p = some ⟨b, off, none⟩ := by
        obtain ⟨b, off, _, _, h, _⟩ := CP.at (HC.out _ HK13.out) (List.getElem?_eq_getElem hkl)
        exact ⟨b, off, h⟩
      have hin : (0 : Int) ≤ (k : Int) ∧ (k : Int) < (cs.length : Int) := ⟨by omega, by omega⟩
      have hin2 : (0 : Int) ≤ (k : Int) ∧ (k : Int) ≤ (cap : Int) := ⟨by omega, by omega⟩
      go_upto_region 25 with fail
      rw [hkq]
      clear hkq g1 g2 g3 g4
      go_cut [20] from 21 to 161 (fun bx wx => ∃ (lb : Nat) (q : Option Addr) (z : Nat), bx = .pointer (some ⟨lb, 0, none⟩) ∧ wx.cell? ⟨lb, 0, none⟩ = some (.int .i64 v) ∧ wx.cell? ⟨lb, 1, none⟩ = some (.slice q (cs.length - 1) z) ∧ CP wx wx.heap.size q (cs.take k ++ cs.drop (k + 1)) ∧ Keep (fun _ => False) w14 wx)
      case first =>
        obtain ⟨vs, hvm, hvc, hcells⟩ := cp_rows (HC.out _ HK13.out.drew)
        have hvl : vs.length = cs.length := by rw [← hvm, List.length_map]
        have HR1 : Hid (Rd w14.drew 3 (.slice (some ⟨b, off, none⟩) k cap) k ((vs.take k).flatMap ccl)) := hid (by
          have := rd_row3 (w := w14.drew) (b := b) (off := off) (c := cap) (l := vs.take k) ccl_len ccl_one (fun i x hx r u hu => by
            have hlt := (List.getElem?_eq_some_iff.1 hx).1
            rw [List.length_take] at hlt
            rw [List.getElem?_take_of_lt (by omega)] at hx
            exact hcells i x hx r u hu)
          rwa [List.length_take, show min k vs.length = k by omega] at this)
        have HR2 : Hid (Rd w14.drew 3 (.slice (if cap = k + 1 then some ⟨b, off, none⟩ else some ⟨b, off + (k + 1) * 3, none⟩) (cs.length - (k + 1)) (cap - (k + 1))) (cs.length - (k + 1)) ((vs.drop (k + 1)).flatMap ccl)) := hid (by
          by_cases hcz : cap = k + 1
          · rw [if_pos hcz, show vs.drop (k + 1) = [] from List.drop_eq_nil_of_le (by omega), show cs.length - (k + 1) = 0 by omega]
            exact ⟨rfl, by simp, .inr ⟨_, _, rfl, fun j u hj => by simp at hj⟩⟩
          rw [if_neg hcz]
          have := rd_row3 (w := w14.drew) (b := b) (off := off + (k + 1) * 3) (c := cap - (k + 1)) (l := vs.drop (k + 1)) ccl_len ccl_one (fun i x hx r u hu => by
            rw [List.getElem?_drop] at hx
            have := hcells _ x hx r u hu
            rw [show off + (k + 1) * 3 + i * 3 + r = off + (k + 1 + i) * 3 + r by omega]
            exact this)
          rwa [List.length_drop, hvl] at this)
        have HK65 : Hid (k ≤ 65536) := hid (by omega)
        have HL65 : Hid (cs.length - 1 ≤ 65536) := hid (by omega)
        have HNM : Hid (k + (cs.length - (k + 1)) = cs.length - 1) := hid (by omega)
        have HFIN : Hid (∀ q z y, Keep (fun _ => False) w14.drew y → y.ownsRow w14.drew.heap.size 34 3 (.slice q (cs.length - 1) z) (cs.length - 1) ((vs.take k).flatMap ccl ++ (vs.drop (k + 1)).flatMap ccl) → CP y y.heap.size q (cs.take k ++ cs.drop (k + 1))) := hid (fun q z y hky ho => by
          rw [← List.flatMap_append] at ho
          have h1 := cp_own (l := vs.take k ++ vs.drop (k + 1)) (by rw [List.length_append, List.length_take, List.length_drop]; omega) ho (fun c hc => (CV.mono (CV.low hvc (Low.keep0 hky)) hky.size) c (by
            rcases List.mem_append.1 hc with h | h
            · exact List.mem_of_mem_take h
            · exact List.mem_of_mem_drop h))
          rwa [List.map_append, List.map_take, List.map_drop, hvm] at h1)
        have HD0 := hid ((Keep.refl (fun _ => False) w14).drew)
        have HW : Hid (∀ wy, Keep (fun _ => False) w14.drew wy → wy.cell? ⟨sb, 0, none⟩ = some (.int .i64 v) ∧ wy.cell? ⟨sb, 1, none⟩ = some (.slice (some ⟨b, off, none⟩) cs.length cap)) := hid (fun wy hk => HS.out _ (HK13.out.drew.trans hk))
        have HS0 := hid (St.start (wb := w14.drew))
        clear hvm hvc hcells hvl s0 s1
        obtain ⟨s0, s1⟩ := HW.out _ (Keep.refl _ _)
        go_wp2_with fail
        refine Plan.wp_region_tr (.st 0 (.st 1 (.st 3 (.st 4 (.st 5 (.st 6 (.st 8 (.st 9 (.st 10 (.st 11 (.st 12 (.br 2 [0, 1, 3, 4, 5, 6, 8, 9, 10, 11, 12] (.br 7 [0, 1, 8, 9, 10, 11, 12] (.br 13 [0, 1] (.st 14 (.ac 15 [0, 1, 14] (.ac 16 [] .done))) 15 [0, 1, 8, 9, 10, 11, 12] (.ac 13 [0, 1] (.st 14 (.ac 16 [] .done)))) 15 [0, 1, 3, 4, 5, 6, 8, 9, 10, 11, 12] (.ac 7 [0, 1, 8, 9, 10, 11, 12] (.ac 13 [0, 1] (.st 14 (.ac 16 [] .done))))) 15 [0, 1, 3, 4, 5, 6, 8, 9, 10, 11, 12] (.ac 2 [0, 1, 3, 4, 5, 6, 8, 9, 10, 11, 12] (.ac 7 [0, 1, 8, 9, 10, 11, 12] (.ac 13 [0, 1] (.st 14 (.ac 16 [] .done))))))))))))))))) (by kernel_rfl) (by kernel_rfl) ?_
        iterate 11 (refine Plan.tr_st rfl ?_; go_big_quiet_step (fail); refine wpQuiet_nil ?_)
        refine Plan.tr_br rfl rfl ?_ ?_
        · as_aux_lemma =>
           refine tr_empty HS0.out (fun e1 y1 a' hs1 ha => ?_)
           simp only [Act.put, List.setIfInBounds_toArray, List.set_cons_succ, List.set_cons_zero] at ha
           subst ha
           have HS1 := hid hs1
           clear hs1 s0 s1
           obtain ⟨s0, s1⟩ := HW.out _ HS1.out.keep
           refine Plan.trQ_mk ?_ ?_
           · iterate 11 (refine Plan.chk_st rfl ?_ ?_; focus (go_big_quiet_step (fail); exact wpQuiet_nil rfl))
             exact Plan.chk_end
           refine Plan.tr_br rfl rfl ?_ ?_
           · as_aux_lemma =>
              refine tr_join HS1.out (by rfl) (by rfl) (HR1.out.keep (cell_keep0 HS1.out.keep)) (Nat.zero_add _) (List.nil_append _) HK65.out (fun q2 z2 y2 a' hs2 ha => ?_)
              simp only [Act.put, List.setIfInBounds_toArray, List.set_cons_succ, List.set_cons_zero] at ha
              subst ha
              have HS2 := hid hs2
              clear hs2 s0 s1
              obtain ⟨s0, s1⟩ := HW.out _ HS2.out.keep
              refine Plan.trQ_mk ?_ ?_
              · iterate 7 (refine Plan.chk_st rfl ?_ ?_; focus (go_big_quiet_step (fail); exact wpQuiet_nil rfl))
                exact Plan.chk_end
              refine Plan.tr_br rfl rfl ?_ ?_
              · as_aux_lemma =>
                 refine tr_join HS2.out (by rfl) (by rfl) (HR2.out.keep (cell_keep0 HS2.out.keep)) HNM.out rfl HL65.out (fun q3 z3 y3 a' hs3 ha => ?_)
                 simp only [Act.put, List.setIfInBounds_toArray, List.set_cons_succ, List.set_cons_zero] at ha
                 subst ha
                 have HS3 := hid hs3
                 clear hs3 s0 s1
                 obtain ⟨s0, s1⟩ := HW.out _ HS3.out.keep
                 refine Plan.trQ_mk ?_ ?_
                 · iterate 2 (refine Plan.chk_st rfl ?_ ?_; focus (go_big_quiet_step (fail); exact wpQuiet_nil rfl))
                   exact Plan.chk_end
                 iterate 1 (refine Plan.tr_st rfl ?_; go_big_quiet_step (fail); refine wpQuiet_nil ?_)
                 refine Plan.tr_ac rfl ?_
                 refine tr_box HS3.out (fun lb y4 a' hs4 ha => ?_)
                 simp only [Act.put, List.setIfInBounds_toArray, List.set_cons_succ, List.set_cons_zero] at ha
                 subst ha
                 have HS4 := hid hs4
                 clear hs4 s0 s1
                 obtain ⟨s0, s1⟩ := HW.out _ HS4.out.keep
                 refine Plan.trQ_mk ?_ ?_
                 · iterate 3 (refine Plan.chk_st rfl ?_ ?_; focus (go_big_quiet_step (fail); exact wpQuiet_nil rfl))
                   exact Plan.chk_end
                 iterate 0 (refine Plan.tr_st rfl ?_; go_big_quiet_step (fail); refine wpQuiet_nil ?_)
                 refine Plan.tr_ac rfl ?_
                 refine tr_fill HS4.out (by rfl) (by rfl) (fun y5 hka hkb hkc => ?_)
                 have HKA := hid hka; have HKB := hid hkb; have HKC := hid hkc
                 clear hka hkb hkc s0 s1
                 refine Plan.trQ_mk Plan.chk_end ?_
                 refine Plan.tr_end ?_
                 generalize (if cap = k + 1 then some (⟨b, off, none⟩ : Addr) else some ⟨b, off + (k + 1) * 3, none⟩) = adr at *
                 go_wp2
                 go_meet
                 case rel => exact ⟨_, _, _, rfl, cell_of HKB.out (by rfl), cell_of HKB.out (by rfl), HFIN.out _ _ _ HKA.out HKC.out, HD0.out.trans HKA.out⟩
              · as_aux_lemma =>
                 refine tr_box HS2.out (fun lb y6 a' hs6 ha => ?_)
                 simp only [Act.put, List.setIfInBounds_toArray, List.set_cons_succ, List.set_cons_zero] at ha
                 subst ha
                 have HS6 := hid hs6
                 clear hs6 s0 s1
                 obtain ⟨s0, s1⟩ := HW.out _ HS6.out.keep
                 refine Plan.trQ_mk ?_ ?_
                 · iterate 7 (refine Plan.chk_st rfl ?_ ?_; focus (go_big_quiet_step (fail); exact wpQuiet_nil rfl))
                   exact Plan.chk_end
                 refine Plan.tr_ac rfl ?_
                 refine tr_join HS6.out (by rfl) (by rfl) (HR2.out.keep (cell_keep0 HS6.out.keep)) HNM.out rfl HL65.out (fun q7 z7 y7 a' hs7 ha => ?_)
                 simp only [Act.put, List.setIfInBounds_toArray, List.set_cons_succ, List.set_cons_zero] at ha
                 subst ha
                 have HS7 := hid hs7
                 clear hs7 s0 s1
                 obtain ⟨s0, s1⟩ := HW.out _ HS7.out.keep
                 refine Plan.trQ_mk ?_ ?_
                 · iterate 2 (refine Plan.chk_st rfl ?_ ?_; focus (go_big_quiet_step (fail); exact wpQuiet_nil rfl))
                   exact Plan.chk_end
                 iterate 1 (refine Plan.tr_st rfl ?_; go_big_quiet_step (fail); refine wpQuiet_nil ?_)
                 iterate 0 (refine Plan.tr_st rfl ?_; go_big_quiet_step (fail); refine wpQuiet_nil ?_)
                 refine Plan.tr_ac rfl ?_
                 refine tr_fill HS7.out (by rfl) (by rfl) (fun y8 hka hkb hkc => ?_)
                 have HKA := hid hka; have HKB := hid hkb; have HKC := hid hkc
                 clear hka hkb hkc s0 s1
                 refine Plan.trQ_mk Plan.chk_end ?_
                 refine Plan.tr_end ?_
                 generalize (if cap = k + 1 then some (⟨b, off, none⟩ : Addr) else some ⟨b, off + (k + 1) * 3, none⟩) = adr at *
                 go_wp2
                 go_meet
                 case rel => exact ⟨_, _, _, rfl, cell_of HKB.out (by rfl), cell_of HKB.out (by rfl), HFIN.out _ _ _ HKA.out HKC.out, HD0.out.trans HKA.out⟩
           · as_aux_lemma =>
              refine tr_box HS1.out (fun lb y9 a' hs9 ha => ?_)
              simp only [Act.put, List.setIfInBounds_toArray, List.set_cons_succ, List.set_cons_zero] at ha
              subst ha
              have HS9 := hid hs9
              clear hs9 s0 s1
              obtain ⟨s0, s1⟩ := HW.out _ HS9.out.keep
              refine Plan.trQ_mk ?_ ?_
              · iterate 11 (refine Plan.chk_st rfl ?_ ?_; focus (go_big_quiet_step (fail); exact wpQuiet_nil rfl))
                exact Plan.chk_end
              refine Plan.tr_ac rfl ?_
              refine tr_join HS9.out (by rfl) (by rfl) (HR1.out.keep (cell_keep0 HS9.out.keep)) (Nat.zero_add _) (List.nil_append _) HK65.out (fun q10 z10 y10 a' hs10 ha => ?_)
              simp only [Act.put, List.setIfInBounds_toArray, List.set_cons_succ, List.set_cons_zero] at ha
              subst ha
              have HS10 := hid hs10
              clear hs10 s0 s1
              obtain ⟨s0, s1⟩ := HW.out _ HS10.out.keep
              refine Plan.trQ_mk ?_ ?_
              · iterate 7 (refine Plan.chk_st rfl ?_ ?_; focus (go_big_quiet_step (fail); exact wpQuiet_nil rfl))
                exact Plan.chk_end
              refine Plan.tr_ac rfl ?_
              refine tr_join HS10.out (by rfl) (by rfl) (HR2.out.keep (cell_keep0 HS10.out.keep)) HNM.out rfl HL65.out (fun q11 z11 y11 a' hs11 ha => ?_)
              simp only [Act.put, List.setIfInBounds_toArray, List.set_cons_succ, List.set_cons_zero] at ha
              subst ha
              have HS11 := hid hs11
              clear hs11 s0 s1
              obtain ⟨s0, s1⟩ := HW.out _ HS11.out.keep
              refine Plan.trQ_mk ?_ ?_
              · iterate 2 (refine Plan.chk_st rfl ?_ ?_; focus (go_big_quiet_step (fail); exact wpQuiet_nil rfl))
                exact Plan.chk_end
              iterate 1 (refine Plan.tr_st rfl ?_; go_big_quiet_step (fail); refine wpQuiet_nil ?_)
              iterate 0 (refine Plan.tr_st rfl ?_; go_big_quiet_step (fail); refine wpQuiet_nil ?_)
              refine Plan.tr_ac rfl ?_
              refine tr_fill HS11.out (by rfl) (by rfl) (fun y12 hka hkb hkc => ?_)
              have HKA := hid hka; have HKB := hid hkb; have HKC := hid hkc
              clear hka hkb hkc s0 s1
              refine Plan.trQ_mk Plan.chk_end ?_
              refine Plan.tr_end ?_
              generalize (if cap = k + 1 then some (⟨b, off, none⟩ : Addr) else some ⟨b, off + (k + 1) * 3, none⟩) = adr at *
              go_wp2
              go_meet
              case rel => exact ⟨_, _, _, rfl, cell_of HKB.out (by rfl), cell_of HKB.out (by rfl), HFIN.out _ _ _ HKA.out HKC.out, HD0.out.trans HKA.out⟩
        · as_aux_lemma =>
           refine tr_box HS0.out (fun lb y13 a' hs13 ha => ?_)
           simp only [Act.put, List.setIfInBounds_toArray, List.set_cons_succ, List.set_cons_zero] at ha
           subst ha
           have HS13 := hid hs13
           clear hs13 s0 s1
           obtain ⟨s0, s1⟩ := HW.out _ HS13.out.keep
           refine Plan.trQ_mk ?_ ?_
           · iterate 11 (refine Plan.chk_st rfl ?_ ?_; focus (go_big_quiet_step (fail); exact wpQuiet_nil rfl))
             exact Plan.chk_end
           refine Plan.tr_ac rfl ?_
           refine tr_empty HS13.out (fun e14 y14 a' hs14 ha => ?_)
           simp only [Act.put, List.setIfInBounds_toArray, List.set_cons_succ, List.set_cons_zero] at ha
           subst ha
           have HS14 := hid hs14
           clear hs14 s0 s1
           obtain ⟨s0, s1⟩ := HW.out _ HS14.out.keep
           refine Plan.trQ_mk ?_ ?_
           · iterate 11 (refine Plan.chk_st rfl ?_ ?_; focus (go_big_quiet_step (fail); exact wpQuiet_nil rfl))
             exact Plan.chk_end
           refine Plan.tr_ac rfl ?_
           refine tr_join HS14.out (by rfl) (by rfl) (HR1.out.keep (cell_keep0 HS14.out.keep)) (Nat.zero_add _) (List.nil_append _) HK65.out (fun q15 z15 y15 a' hs15 ha => ?_)
           simp only [Act.put, List.setIfInBounds_toArray, List.set_cons_succ, List.set_cons_zero] at ha
           subst ha
           have HS15 := hid hs15
           clear hs15 s0 s1
           obtain ⟨s0, s1⟩ := HW.out _ HS15.out.keep
           refine Plan.trQ_mk ?_ ?_
           · iterate 7 (refine Plan.chk_st rfl ?_ ?_; focus (go_big_quiet_step (fail); exact wpQuiet_nil rfl))
             exact Plan.chk_end
           refine Plan.tr_ac rfl ?_
           refine tr_join HS15.out (by rfl) (by rfl) (HR2.out.keep (cell_keep0 HS15.out.keep)) HNM.out rfl HL65.out (fun q16 z16 y16 a' hs16 ha => ?_)
           simp only [Act.put, List.setIfInBounds_toArray, List.set_cons_succ, List.set_cons_zero] at ha
           subst ha
           have HS16 := hid hs16
           clear hs16 s0 s1
           obtain ⟨s0, s1⟩ := HW.out _ HS16.out.keep
           refine Plan.trQ_mk ?_ ?_
           · iterate 2 (refine Plan.chk_st rfl ?_ ?_; focus (go_big_quiet_step (fail); exact wpQuiet_nil rfl))
             exact Plan.chk_end
           iterate 1 (refine Plan.tr_st rfl ?_; go_big_quiet_step (fail); refine wpQuiet_nil ?_)
           iterate 0 (refine Plan.tr_st rfl ?_; go_big_quiet_step (fail); refine wpQuiet_nil ?_)
           refine Plan.tr_ac rfl ?_
           refine tr_fill HS16.out (by rfl) (by rfl) (fun y17 hka hkb hkc => ?_)
           have HKA := hid hka; have HKB := hid hkb; have HKC := hid hkc
           clear hka hkb hkc s0 s1
           refine Plan.trQ_mk Plan.chk_end ?_
           refine Plan.tr_end ?_
           generalize (if cap = k + 1 then some (⟨b, off, none⟩ : Addr) else some ⟨b, off + (k + 1) * 3, none⟩) = adr at *
           go_wp2
           go_meet
           case rel => exact ⟨_, _, _, rfl, cell_of HKB.out (by rfl), cell_of HKB.out (by rfl), HFIN.out _ _ _ HKA.out HKC.out, HD0.out.trans HKA.out⟩
      case rest =>
      obtain ⟨lb, q, z, rfl, b0, b1, hcl, hkx⟩ := hcut
      have hll : (cs.take k ++ cs.drop (k + 1)).length = cs.length - 1 := by rw [List.length_append, List.length_take, List.length_drop]; omega
      have hckl := checkC_less HCK.out k
      have hsm : Small (cs.take k ++ cs.drop (k + 1)) := ⟨by omega, fun c hc => HSM.out.2 c (by
        rcases List.mem_append.1 hc with h | h
        · exact List.mem_of_mem_take h
        · exact List.mem_of_mem_drop h)⟩
      have hne : cs.take k ++ cs.drop (k + 1) ≠ cs := fun e => by have := congrArg List.length e; omega
      generalize cs.take k ++ cs.drop (k + 1) = less at *
      rw [← hll] at b1
      have hlt0 := World.block_lt_of_cell? wc _ b1
      have HB1 := hid b1; have HB0' := hid b0; have HLT := hid hlt0
      have HCL := hid hcl; have HCKL := hid hckl; have HSML := hid hsm; have HNE := hid hne
      have HKX := hid (HK13.out.trans hkx)
      obtain ⟨s0, s1⟩ := HS.out _ HKX.out
      clear hll hckl hsm hne hcl hkx hlt0 hz
      go_wp2_with fail
      refine (sch_check v less q z _ HSML.out HCL.out).mono ?_
      rintro r w15 ⟨rfl, hk15⟩
      rw [HCKL.out]
      have HK15 := hid hk15
      clear hk15 b0 b1 s0 s1
      obtain ⟨s0, s1⟩ := HS.out _ (HKX.out.trans HK15.out)
      have b0 : w15.cell? ⟨lb, 0, none⟩ = some (.int .i64 v) := cell_keep0 HK15.out _ _ HB0'.out
      have b1 : w15.cell? ⟨lb, 1, none⟩ = some (.slice q less.length z) := cell_keep0 HK15.out _ _ HB1.out
      go_wp2_with fail
      refine (sch_same v v less cs q (some ⟨b, off, none⟩) z cap _ HSML.out (CP.mono (CP.low HCL.out (Low.keep0 HK15.out)) HK15.out.size) (HC.out _ (HKX.out.trans HK15.out))).mono ?_
      rintro r w16 ⟨rfl, hk16⟩
      rw [decide_eq_false (fun h : v = v ∧ less = cs => HNE.out h.2)]
      have HK16 := hid (HKX.out.trans (HK15.out.trans hk16))
      clear hk16 b0 b1 s0 s1
      go_wp2
      go_ret
      exact ⟨rfl, (HK0.out.trans HK16.out).below⟩
end Go.Proofs.Ythpafpgillnimaa
