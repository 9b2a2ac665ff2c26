/- What is proved: the law CheckRules answers true, of two components and a rule in memory. -/
import Derived.Test.YtenoeondfdiklaaFrm
import Derived.Test.YtenoeondfdiklaaAwake13
import Derived.Test.YtenoeondfdiklaaGreat13
import Derived.Test.YtenoeondfdiklaaRf13b
namespace Go.Proofs.Ytenoeondfdiklaa
open Go.RowKit Go.Proofs.Heap Go.Proofs.Sch Go.Proofs.Wide

theorem one_cp {w : World} {g : Nat} {t : TypeId} {c : Cmp} {p : Option Addr} {z : Nat} (h : w.heap[g]? = some (.cells #[.int .i64 c.id, .string c.name, .slice p c.fs.length z] t (0, 0))) (hz : c.fs.length ≤ z) (hf : FP w w.heap.size p c.fs) : CP w w.heap.size (some ⟨g, 0, none⟩) [c] := by
  refine .inr ⟨g, 0, rfl, lt_of_heap h, fun i x hx => ?_⟩
  match i, hx with
  | 0, hx =>
    injection hx with hx
    subst hx
    exact ⟨cell_of h (by rfl), cell_of h (by rfl), p, z, cell_of h (by rfl), hz, hf⟩
  | _ + 1, hx => simp at hx
theorem one_up {w : World} {g : Nat} {t : TypeId} {r : Rul} {p : Option Addr} {z : Nat} (h : w.heap[g]? = some (.cells #[.int .i64 r.new, .int .i64 r.old, .slice p r.exprs.length z] t (0, 0))) (hz : r.exprs.length ≤ z) (hf : EP w w.heap.size p r.exprs) : UP w w.heap.size (some ⟨g, 0, none⟩) [r] := by
  refine .inr ⟨g, 0, rfl, lt_of_heap h, fun i x hx => ?_⟩
  match i, hx with
  | 0, hx =>
    injection hx with hx
    subst hx
    exact ⟨cell_of h (by rfl), cell_of h (by rfl), p, z, cell_of h (by rfl), hz, hf⟩
  | _ + 1, hx => simp at hx

theorem field_two (w : World) (ub uo rc : Nat) : (Instr.field 41 (.agg #[.int .i64 0, .int .i64 0, .slice (some ⟨ub, uo, none⟩) 1 rc]) 2).run Try.prog w = .ok (.slice (some ⟨ub, uo, none⟩) 1 rc) w := by kernel_rfl

set_option maxRecDepth 20000 in
set_option maxHeartbeats 16000000 in
theorem rules_walk (a b : Cmp) (r : Rul) (p : Option Addr) (z : Nat) (p2 : Option Addr) (z2 : Nat) (q : Option Addr) (qc : Nat) (w : World) (hza : a.fs.length ≤ z) (hzb : b.fs.length ≤ z2) (hzr : r.exprs.length ≤ qc)
    (hfit : ∀ c ∈ r.exprs, ∀ x ∈ c, x.k.fit) (hfa : FP w w.heap.size p a.fs) (hfb : FP w w.heap.size p2 b.fs) (hc : EP w w.heap.size q r.exprs) :
    Calls Try.prog 3 #[.agg #[.int .i64 a.id, .string a.name, .slice p a.fs.length z], .agg #[.int .i64 b.id, .string b.name, .slice p2 b.fs.length z2], .agg #[.int .i64 r.new, .int .i64 r.old, .slice q r.exprs.length qc]] w
      fun e w' => e = .returned (.bool true) ∧ Keep (fun _ => False) w w' := by
  obtain ⟨ai, an, fs⟩ := a
  obtain ⟨bi, bn, gs⟩ := b
  obtain ⟨rn, ro, es⟩ := r
  simp only at hza hzb hzr hfit hfa hfb hc
  obtain ⟨w3, hw3, hb1, hb2, hb3, hs3, hk3⟩ := box3 w #[.int .i64 ai, .string an, .slice p fs.length z] #[.int .i64 bi, .string bn, .slice p2 gs.length z2] #[.int .i64 rn, .int .i64 ro, .slice q es.length qc] 24 24 27
  have HK := hid hk3
  have HD : Hid (∀ wy, Keep (fun _ => False) w3 wy → FP wy wy.heap.size p fs ∧ FP wy wy.heap.size p2 gs ∧ EP wy wy.heap.size q es) := hid (fun wy hk =>
    ⟨FP.mono (FP.low hfa (Low.keep0 (hk3.trans hk))) (hk3.trans hk).size, FP.mono (FP.low hfb (Low.keep0 (hk3.trans hk))) (hk3.trans hk).size, EP.mono (EP.low hc (Low.keep0 (hk3.trans hk))) (hk3.trans hk).size⟩)
  have HX := hid hfit
  have HZ := hid (show fs.length ≤ z ∧ gs.length ≤ z2 ∧ es.length ≤ qc from ⟨hza, hzb, hzr⟩)
  clear hfa hfb hc hk3 hs3 hfit hza hzb hzr
  go_enter Try.func3, Try.ntmps3
  go_upto_region 1 with fail
  rw [← hw3]
  clear hw3
  generalize w.heap.size = sb at *
  have HW : Hid (∀ wy, Keep (fun _ => False) w3 wy → (wy.cell? ⟨sb, 0, none⟩ = some (.int .i64 ai) ∧ wy.cell? ⟨sb, 1, none⟩ = some (.string an) ∧ wy.cell? ⟨sb, 2, none⟩ = some (.slice p fs.length z)) ∧ (wy.cell? ⟨sb + 1, 0, none⟩ = some (.int .i64 bi) ∧ wy.cell? ⟨sb + 1, 1, none⟩ = some (.string bn) ∧ wy.cell? ⟨sb + 1, 2, none⟩ = some (.slice p2 gs.length z2)) ∧
      (wy.cell? ⟨sb + 1 + 1, 0, none⟩ = some (.int .i64 rn) ∧ wy.cell? ⟨sb + 1 + 1, 1, none⟩ = some (.int .i64 ro) ∧ wy.cell? ⟨sb + 1 + 1, 2, none⟩ = some (.slice q es.length qc))) := hid (fun wy hk =>
    ⟨⟨cell_of (hk.get hb1 id) (by rfl), cell_of (hk.get hb1 id) (by rfl), cell_of (hk.get hb1 id) (by rfl)⟩, ⟨cell_of (hk.get hb2 id) (by rfl), cell_of (hk.get hb2 id) (by rfl), cell_of (hk.get hb2 id) (by rfl)⟩, cell_of (hk.get hb3 id) (by rfl), cell_of (hk.get hb3 id) (by rfl), cell_of (hk.get hb3 id) (by rfl)⟩)
  clear hb1 hb2 hb3
  go_wp2_with fail
  refine (awake_true _).mono ?_
  rintro e w4 ⟨rfl, hk4⟩
  obtain ⟨⟨s0, s1, s2⟩, ⟨s3, s4, s5⟩, s6, s7, s8⟩ := HW.out _ hk4
  obtain ⟨w5, hw5, hc1, hc2, hc3, hs5, hk5⟩ := box3 w4 #[.int .i64 ai, .string an, .slice p fs.length z] #[.int .i64 bi, .string bn, .slice p2 gs.length z2] #[.int .i64 rn, .int .i64 ro, .slice q es.length qc] 24 24 27
  have HK5 := hid (hk4.trans hk5)
  obtain ⟨_, ⟨e3, e4, e5⟩, _⟩ := HW.out _ (hk4.alloc (.cells #[.int .i64 ai, .string an, .slice p fs.length z] 24))
  obtain ⟨_, _, e6, e7, e8⟩ := HW.out _ ((hk4.alloc (.cells #[.int .i64 ai, .string an, .slice p fs.length z] 24)).alloc (.cells #[.int .i64 bi, .string bn, .slice p2 gs.length z2] 24))
  have HK4 := hid hk4
  have HC5 := hid (show CP w5 w5.heap.size (some ⟨w4.heap.size, 0, none⟩) [⟨ai, an, fs⟩] ∧ CP w5 w5.heap.size (some ⟨w4.heap.size + 1, 0, none⟩) [⟨bi, bn, gs⟩] ∧ UP w5 w5.heap.size (some ⟨w4.heap.size + 1 + 1, 0, none⟩) [⟨rn, ro, es⟩] from
    ⟨one_cp hc1 HZ.out.1 (HD.out _ HK5.out).1, one_cp hc2 HZ.out.2.1 (HD.out _ HK5.out).2.1, one_up hc3 HZ.out.2.2 (HD.out _ HK5.out).2.2⟩)
  clear hc1 hc2 hc3 hs5 hk5 hk4
  go_wp2_with fail
  rw [← hw5]
  clear hw5
  refine (law_great 0 [⟨ai, an, fs⟩] _ 1 0 [⟨bi, bn, gs⟩] _ 1 0 0 [⟨rn, ro, es⟩] _ 1 _ HC5.out.1 HC5.out.2.1 HC5.out.2.2).mono ?_
  rintro e w6 ⟨⟨B, rfl, hB⟩, hk6⟩
  have HK6 := hid (HK5.out.trans hk6)
  have HB := hid hB
  clear hB hk6 s0 s1 s2 s3 s4 s5 s6 s7 s8 e3 e4 e5 e6 e7 e8 HC5
  cases B
  rotate_left
  · go_wp2
    go_ret
    exact ⟨rfl, HK.out.trans HK6.out⟩
  have hfew := HB.out rfl
  have hfa : fs.length ≤ 12 := hfew.fa _ (List.mem_singleton.2 rfl)
  have hfb : gs.length ≤ 12 := hfew.fb _ (List.mem_singleton.2 rfl)
  have hfe : es.length ≤ 12 := (hfew.ex _ (List.mem_singleton.2 rfl)).1
  have HFE : Hid (∀ e ∈ es, e.length ≤ 80) := hid (hfew.ex _ (List.mem_singleton.2 rfl)).2
  clear hfew HB
  obtain ⟨_, _, s6, s7, s8⟩ := HW.out _ HK6.out
  obtain ⟨w7, hw7, hc7, hs7, hk7⟩ := box1 w6 #[.int .i64 rn, .int .i64 ro, .slice q es.length qc] 27
  have HK7 := hid (HK6.out.trans hk7)
  have HU7 := hid (one_up (r := ⟨rn, ro, es⟩) hc7 HZ.out.2.2 (HD.out _ HK7.out).2.2)
  clear hc7 hs7 hk7
  go_wp2_with fail
  rw [← hw7]
  clear hw7
  refine (law_form 0 0 [⟨rn, ro, es⟩] _ 1 _ (by simp) (fun r hr => by rw [List.mem_singleton.1 hr]; exact ⟨by simp only; omega, fun e he => by have := HFE.out e he; omega⟩) HU7.out).mono ?_
  rintro e w8 ⟨rp, rc, rfl, hup, hk8⟩
  have HK8 := hid (HK7.out.trans hk8)
  obtain ⟨ub, uo, uq, uz, rfl, hub, u0, u1, u2, _, hue⟩ := UP.at hup (i := 0) (x := ⟨rn, ro, es⟩) rfl
  simp only [Nat.zero_mul, Nat.add_zero] at u0 u1 u2 hue
  have hin0 : (0 : Int) ≤ 0 ∧ (0 : Int) < (([⟨rn, ro, es⟩] : List Rul).length : Int) := ⟨by omega, by simp⟩
  obtain ⟨w9, hw9, hc9, hs9, hk9⟩ := box1 w8 #[.int .i64 rn, .int .i64 ro, .slice uq es.length uz] 38
  have HK9 := hid (HK8.out.trans hk9)
  have HUE : Hid (∀ wy, Keep (fun _ => False) w9 wy → EP wy wy.heap.size uq es) := hid (fun wy hk => EP.mono (EP.low hue (Low.keep0 (hk9.trans hk))) (hk9.trans hk).size)
  clear hub hue hs9 hk9 hk8 hup s6 s7 s8
  have hfl := field_two w8 ub uo rc
  go_upto_region 6 with fail
  rw [← hw9]
  clear hw9 u0 u1 u2 hin0 hfl
  generalize w8.heap.size = vb at *
  have HV : Hid (∀ wy, Keep (fun _ => False) w9 wy → wy.cell? ⟨vb, 0, none⟩ = some (.int .i64 rn) ∧ wy.cell? ⟨vb, 1, none⟩ = some (.int .i64 ro) ∧ wy.cell? ⟨vb, 2, none⟩ = some (.slice uq es.length uz)) := hid (fun wy hk =>
    ⟨cell_of (hk.get hc9 id) (by rfl), cell_of (hk.get hc9 id) (by rfl), cell_of (hk.get hc9 id) (by rfl)⟩)
  clear hc9
  have HKD := hid (HK9.out.drew)
  have hkd := (Keep.refl (fun _ => False) w9).drew
  have HVD := hid hkd
  obtain ⟨⟨s0, s1, s2⟩, ⟨s3, s4, s5⟩, s6, s7, s8⟩ := HW.out _ HKD.out
  obtain ⟨v0, v1, v2⟩ := HV.out _ hkd
  clear hkd
  refine Plan.wp_region_pl [(false, 0, []), (false, 1, []), (false, 2, []), (false, 4, []), (false, 5, []), (false, 6, []), (true, 3, [6, 5, 4]), (true, 7, []), (false, 8, [])] (by kernel_rfl) (by kernel_rfl) ?_
  iterate 6 (refine Plan.pl_st rfl ?_; go_big_quiet_step (fail); refine wpQuiet_nil ?_)
  refine Plan.pl_ac rfl ?_
  go_wp2_with fail
  refine (chk_rule ⟨ai, an, fs⟩ ⟨bi, bn, gs⟩ ⟨rn, ro, es⟩ p z p2 z2 q qc _ (by simp only; omega) (by simp only; omega) HX.out (HD.out _ HKD.out).1 (HD.out _ HKD.out).2.1 (HD.out _ HKD.out).2.2).mono ?_
  rintro e w10 ⟨rfl, hk10⟩
  have HK10 := hid (HKD.out.trans hk10)
  have HV10 := hid (HVD.out.trans hk10)
  clear hk10 s0 s1 s2 s3 s4 s5 s6 s7 s8 v0 v1 v2
  obtain ⟨⟨s0, s1, s2⟩, ⟨s3, s4, s5⟩, s6, s7, s8⟩ := HW.out _ HK10.out
  obtain ⟨v0, v1, v2⟩ := HV.out _ HV10.out
  go_wp2
  refine Plan.plQ_mk ?_ ?_
  · iterate 3 (refine Plan.chk_st rfl ?_ ?_; focus (go_big_quiet_step (fail); exact wpQuiet_nil rfl))
    exact Plan.chk_end
  refine Plan.pl_ac rfl ?_
  go_wp2_with fail
  refine (rf_rule ⟨ai, an, fs⟩ ⟨bi, bn, gs⟩ ⟨rn, ro, es⟩ p z p2 z2 uq uz _ (by simp only; omega) (by simp only; omega) HX.out (HD.out _ HK10.out).1 (HD.out _ HK10.out).2.1 (HUE.out _ HV10.out)).mono ?_
  rintro e w11 ⟨rfl, hk11⟩
  have HK11 := hid (HK10.out.trans hk11)
  have HV11 := hid (HV10.out.trans hk11)
  clear hk11 s0 s1 s2 s3 s4 s5 s6 s7 s8 v0 v1 v2
  generalize ruleC ⟨ai, an, fs⟩ ⟨bi, bn, gs⟩ ⟨rn, ro, es⟩ = er at *
  go_wp2
  refine Plan.plQ_mk Plan.chk_end ?_
  iterate 1 (refine Plan.pl_st rfl ?_; go_big_quiet_step (fail); refine wpQuiet_nil ?_)
  refine Plan.pl_end ?_
  go_wp2_with fail
  go_loopw [8] (fun i wr => ∃ k : Nat, k ≤ gs.length ∧ i = iV k ∧ Keep (fun _ => False) w9 wr) (fun i _ => gs.length + 1 - (intOf i).toNat)
  case atStart => exact ⟨0, Nat.zero_le _, rfl, HV11.out⟩
  case round =>
    generalize wr = wo at *
    obtain ⟨k, hk, rfl, hkr⟩ := hrel
    have HKR := hid hkr
    clear hkr
    obtain ⟨⟨s0, s1, s2⟩, ⟨s3, s4, s5⟩, s6, s7, s8⟩ := HW.out _ (HK9.out.trans HKR.out)
    by_cases hlt : k < gs.length
    · obtain ⟨g, hgk⟩ : ∃ g, gs[k]? = some g := ⟨gs[k], by simp [hlt]⟩
      have hin : (0 : Int) ≤ (k : Int) ∧ (k : Int) < (gs.length : Int) := ⟨by omega, by omega⟩
      have HGK := hid hgk
      clear hgk
      go_wp2_with fail
      clear s0 s1 s2 s3 s4 s5 s6 s7 s8
      go_loopw [9] (fun i wr => ∃ j : Nat, j ≤ es.length ∧ i = iV j ∧ Keep (fun _ => False) w9 wr) (fun i _ => es.length + 1 - (intOf i).toNat)
      case atStart => exact ⟨0, Nat.zero_le _, rfl, HKR.out⟩
      case round =>
        obtain ⟨j, hj, rfl, hkj⟩ := hrel
        have HKJ := hid hkj
        clear hkj
        obtain ⟨⟨s0, s1, s2⟩, ⟨s3, s4, s5⟩, s6, s7, s8⟩ := HW.out _ (HK9.out.trans HKJ.out)
        by_cases hjlt : j < es.length
        · obtain ⟨c, hcj⟩ : ∃ c, es[j]? = some c := ⟨es[j], by simp [hjlt]⟩
          have HCJ := hid hcj
          have HXC := hid (HX.out c (List.mem_of_getElem? hcj))
          have hin2 : (0 : Int) ≤ (j : Int) ∧ (j : Int) < (es.length : Int) := ⟨by omega, by omega⟩
          have HJD := hid HKJ.out.drew
          clear hcj
          go_upto_region 14 with fail
          clear s0 s1 s2 s3 s4 s5 s6 s7 s8
          have hkd := HK9.out.trans HJD.out
          have HKD2 := hid hkd
          clear hkd
          obtain ⟨⟨s0, s1, s2⟩, ⟨s3, s4, s5⟩, s6, s7, s8⟩ := HW.out _ HKD2.out
          obtain ⟨v0, v1, v2⟩ := HV.out _ HJD.out
          obtain ⟨gn, gk, gc⟩ := g
          obtain ⟨fb, fo, rfl, hfbl, f0, f1, f2⟩ := FP.at (HD.out _ HKD2.out).2.1 HGK.out
          obtain ⟨eb, eo, eq, ec, rfl, hebl, x0, _, hxe⟩ := EP.at (HD.out _ HKD2.out).2.2 HCJ.out
          obtain ⟨db, d_o, dq, dc, rfl, hdbl, y0, _, hye⟩ := EP.at (HUE.out _ HJD.out) HCJ.out
          simp only at f0 f1 f2
          have HLT := hid (show fb < wr.drew.heap.size ∧ eb < wr.drew.heap.size ∧ db < wr.drew.heap.size from ⟨hfbl, hebl, hdbl⟩)
          have HXE := hid hxe; have HYE := hid hye
          have HF := hid (show wr.drew.cell? ⟨fb, fo + k * 3, none⟩ = some (.string gn) ∧ wr.drew.cell? ⟨fb, fo + k * 3 + 1, none⟩ = some (.int .i64 gk) ∧ wr.drew.cell? ⟨fb, fo + k * 3 + 2, none⟩ = some (.int .i64 gc) ∧ wr.drew.cell? ⟨db, d_o + j, none⟩ = some (.slice dq c.length dc) from ⟨f0, f1, f2, y0⟩)
          clear hfbl hebl hdbl hxe hye
          refine Plan.wp_region_pl [(false, 0, []), (false, 1, []), (false, 2, []), (false, 3, []), (false, 4, []), (false, 5, []), (false, 6, []), (false, 7, []), (false, 8, []), (false, 9, []), (false, 10, []), (false, 12, []), (false, 13, []), (false, 14, []), (false, 15, []), (false, 16, []), (false, 17, []), (false, 18, []), (false, 19, []), (false, 20, []), (false, 21, []), (false, 22, []), (true, 11, [22, 21, 20, 19, 18, 17, 16, 15, 14, 13, 12]), (true, 23, []), (false, 24, [])] (by kernel_rfl) (by kernel_rfl) ?_
          iterate 22 (refine Plan.pl_st rfl ?_; go_big_quiet_step (fail); refine wpQuiet_nil ?_)
          refine Plan.pl_ac rfl ?_
          go_wp2_with fail
          refine (chk_formula ⟨ai, an, fs⟩ ⟨gn, gk, gc⟩ c p z eq ec _ (by simp only; omega) HXC.out (HD.out _ HKD2.out).1 HXE.out).mono ?_
          rintro e wa ⟨rfl, hka⟩
          have HKA := hid (HKD2.out.trans hka)
          have HJA := hid (HJD.out.trans hka)
          have hl := Low.keep0 hka
          clear s0 s1 s2 s3 s4 s5 s6 s7 s8 v0 v1 v2 f0 f1 f2 x0 y0
          have HYA := hid (IP.mono (IP.low HYE.out hl) hka.size)
          have f0 : wa.cell? ⟨fb, fo + k * 3, none⟩ = some (.string gn) := (hl.cell HLT.out.1).trans HF.out.1
          have f1 : wa.cell? ⟨fb, fo + k * 3 + 1, none⟩ = some (.int .i64 gk) := (hl.cell HLT.out.1).trans HF.out.2.1
          have f2 : wa.cell? ⟨fb, fo + k * 3 + 2, none⟩ = some (.int .i64 gc) := (hl.cell HLT.out.1).trans HF.out.2.2.1
          have y0 : wa.cell? ⟨db, d_o + j, none⟩ = some (.slice dq c.length dc) := (hl.cell HLT.out.2.2).trans HF.out.2.2.2
          clear hka hl
          obtain ⟨⟨s0, s1, s2⟩, ⟨s3, s4, s5⟩, s6, s7, s8⟩ := HW.out _ HKA.out
          obtain ⟨v0, v1, v2⟩ := HV.out _ HJA.out
          go_wp2
          refine Plan.plQ_mk ?_ ?_
          · iterate 11 (refine Plan.chk_st rfl ?_ ?_; focus (go_big_quiet_step (fail); exact wpQuiet_nil rfl))
            exact Plan.chk_end
          refine Plan.pl_ac rfl ?_
          go_wp2_with fail
          refine (rf_formula ⟨ai, an, fs⟩ ⟨gn, gk, gc⟩ c p z dq dc _ (by simp only; omega) HXC.out (HD.out _ HKA.out).1 HYA.out).mono ?_
          rintro e wb ⟨rfl, hkb⟩
          have HJB := hid (HJA.out.trans hkb)
          clear hkb s0 s1 s2 s3 s4 s5 s6 s7 s8 v0 v1 v2 f0 f1 f2 y0
          generalize formC ⟨ai, an, fs⟩ ⟨gn, gk, gc⟩ c = er2 at *
          go_wp2
          refine Plan.plQ_mk Plan.chk_end ?_
          iterate 1 (refine Plan.pl_st rfl ?_; go_big_quiet_step (fail); refine wpQuiet_nil ?_)
          refine Plan.pl_end ?_
          go_wp2
          go_roundw
          case rel => exact ⟨j + 1, by omega, by go_num, HJB.out⟩
          case measure => simp [intOf]; omega
        · obtain rfl : j = es.length := by omega
          have g0 : decide ((es.length : Int) < (es.length : Int)) = false := decide_eq_false (by omega)
          go_wp2
          go_roundw
          case rel => exact ⟨k + 1, by omega, by go_num, HKJ.out⟩
          case measure => simp [intOf]; omega
    · obtain rfl : k = gs.length := by omega
      have g0 : decide ((gs.length : Int) < (gs.length : Int)) = false := decide_eq_false (by omega)
      go_wp2
      go_ret
      exact ⟨rfl, HK.out.trans (HK9.out.trans HKR.out)⟩

theorem rules_true (a : Cmp) (p : Option Addr) (z : Nat) (b : Cmp) (p2 : Option Addr) (z2 : Nat) (r : Rul) (q : Option Addr) (qc : Nat) (w : World) (hza : a.fs.length ≤ z) (hfa : FP w w.heap.size p a.fs) (hzb : b.fs.length ≤ z2) (hfb : FP w w.heap.size p2 b.fs) (hzr : r.exprs.length ≤ qc)
    (hc : EP w w.heap.size q r.exprs) (hfit : ∀ c ∈ r.exprs, ∀ x ∈ c, x.k.fit) :
    Calls Try.prog 3 #[.agg #[.int .i64 a.id, .string a.name, .slice p a.fs.length z], .agg #[.int .i64 b.id, .string b.name, .slice p2 b.fs.length z2], .agg #[.int .i64 r.new, .int .i64 r.old, .slice q r.exprs.length qc]] w
      fun e w' => e = .returned (.bool true) ∧ Below w.heap.size w w' :=
  (rules_walk a b r p z p2 z2 q qc w hza hzb hzr hfit hfa hfb hc).mono fun _ _ ⟨h1, h2⟩ => ⟨h1, h2.below⟩
end Go.Proofs.Ytenoeondfdiklaa
