/- What is proved: the law SchemaClones returns true, whatever the schema and the numbers.  -/
import Derived.Test.YthpafpgillnimaaSchXor
import Derived.Test.YthpafpgillnimaaSchAwake
import Derived.Test.YthpafpgillnimaaSchGreat
namespace Go.Proofs.Ythpafpgillnimaa
open Go.RowKit Go.Proofs.Heap Go.Proofs.Sch

theorem mod_val (z : Int) (m : Nat) (hm : 0 < m) (hb : m ≤ 400) : ∃ q : Nat, wrap64 ((IntKind.u64.wrap z).tmod (m : Int)) = (q : Int) ∧ q < m := by
  have h : IntKind.u64.wrap z = z % 18446744073709551616 := by simp [IntKind.wrap, IntKind.bits, IntKind.signed]
  generalize IntKind.u64.wrap z = y at h
  have h0 : 0 ≤ y := by omega
  rw [Int.tmod_eq_emod_of_nonneg h0]
  have h1 := Int.emod_nonneg y (show (m : Int) ≠ 0 by omega)
  have h2 := Int.emod_lt_of_pos y (show (0 : Int) < (m : Int) by omega)
  generalize y % (m : Int) = r at h1 h2
  refine ⟨r.toNat, ?_, by omega⟩
  unfold wrap64
  omega

theorem small_set {cs : List Cmp} (h : Small cs) {k : Nat} {c : Cmp} (hc : c.fs.length ≤ 65536) : Small (cs.set k c) :=
  ⟨by rw [List.length_set]; exact h.1, fun x hx => by
    rcases List.mem_or_eq_of_mem_set hx with h1 | rfl
    · exact h.2 x h1
    · exact hc⟩
theorem Own.keep0 {w w' : World} {base c : Nat} {p : Option Addr} {vs : List Cv} (h : Own w base p c vs) (hk : Keep (fun _ => False) w w') : Own w' base p c vs :=
  ⟨owns_keep h.row (fun q hq => hk.block q (h.row.lt q hq).2 (fun h => h)), fun i x hx => owns_keep (h.fld i x hx) (fun q hq => hk.block q ((h.fld i x hx).lt q hq).2 (fun h => h)), h.dis, h.row_ne⟩

set_option maxRecDepth 20000 in
set_option maxHeartbeats 4000000 in
theorem clones_walk (v at_ turn : Int) (cs : List Cmp) (p : Option Addr) (cap : Nat) (w : World) (hf : CP w w.heap.size p cs) :
    Calls Try.prog 6 #[.agg #[.int .i64 v, .slice p cs.length cap], .int .i64 at_, .int .i64 turn] w fun r w' => r = .returned (.bool true) ∧ Below w.heap.size w w' := by
  have hk0 := (Keep.refl (fun _ => False) w).alloc (.cells #[.int .i64 v, .slice p cs.length cap] 24)
  have HB0 := hid (heap_alloc_new w (.cells #[.int .i64 v, .slice p cs.length cap] 24))
  have HF0 := hid (CP.mono (CP.low hf (Low.keep0 hk0)) hk0.size)
  have HK0 := hid hk0
  clear hf hk0
  go_enter Try.func6, Try.ntmps6
  go_upto_region 1 with fail
  generalize w.alloc (.cells #[.int .i64 v, .slice p cs.length cap] 24) = w0 at *
  have hs0 := lt_of_heap HB0.out
  generalize hsb : w.heap.size = sb at *
  have HS : Hid (∀ wy, Keep (fun _ => False) w0 wy → wy.cell? ⟨sb, 0, none⟩ = some (.int .i64 v) ∧ wy.cell? ⟨sb, 1, none⟩ = some (.slice p cs.length cap)) := hid (fun wy hk => ⟨cell_of (hk.get HB0.out (fun h => h)) (by rfl), cell_of (hk.get HB0.out (fun h => h)) (by rfl)⟩)
  have HC : Hid (∀ wy, Keep (fun _ => False) w0 wy → CP wy wy.heap.size p cs) := hid (fun wy hk => CP.mono (CP.low HF0.out (Low.keep0 hk)) hk.size)
  go_wp2_with fail
  refine (awake_true _).mono ?_
  rintro r w1 ⟨rfl, hk1⟩
  have HK1 := hid hk1
  clear hk1
  obtain ⟨s0, s1⟩ := HS.out _ HK1.out
  go_wp2_with fail
  refine (sch_great v cs p cap _ (HC.out _ HK1.out)).mono ?_
  rintro r w2 ⟨rfl, hk2⟩
  have HK2 := hid (HK1.out.trans hk2)
  clear hk2 s0 s1
  obtain ⟨s0, s1⟩ := HS.out _ HK2.out
  by_cases hfair : FairS cs
  rotate_left
  · rw [decide_eq_false hfair]
    clear hfair
    go_wp2
    go_ret
    exact ⟨rfl, (HK0.out.trans HK2.out).below⟩
  rw [decide_eq_true hfair]
  have hl30 := hfair.1
  have HSM := hid hfair.small
  have HFA := hid hfair
  clear hfair
  by_cases hz : cs.length = 0
  · have g1 : ((cs.length : Int) == 0) = true := beq_iff_eq.2 (by omega)
    have g2 : (cs.length == 0) = true := beq_iff_eq.2 hz
    clear hz
    go_wp2
    go_ret
    exact ⟨rfl, (HK0.out.trans HK2.out).below⟩
  have g1 : ((cs.length : Int) == 0) = false := beq_eq_false_iff_ne.2 (by omega)
  have g2 : (cs.length == 0) = false := beq_eq_false_iff_ne.2 hz
  go_wp2_with fail
  refine (sch_clone v cs p cap _ HSM.out (HC.out _ HK2.out)).mono ?_
  rintro r w3 ⟨pa, ca, va, rfl, hca, hva, hoa, hk3⟩
  have hk4 := hk3.alloc (.cells #[.int .i64 v, .slice pa cs.length ca] 24)
  have HBA := hid (heap_alloc_new w3 (.cells #[.int .i64 v, .slice pa cs.length ca] 24))
  have hcpa : CP w3 w3.heap.size pa cs := hva ▸ hoa.cp
  have HCA := hid (CP.mono (CP.low hcpa (Low.keep0 ((Keep.refl (fun _ => False) w3).alloc (.cells #[.int .i64 v, .slice pa cs.length ca] 24)))) ((Keep.refl (fun _ => False) w3).alloc (.cells #[.int .i64 v, .slice pa cs.length ca] 24)).size)
  have HK4 := hid (HK2.out.trans hk4)
  clear hk3 hk4 hcpa hoa hva hca s0 s1 g1 g2
  go_upto_region 6 with fail
  generalize w3.alloc (.cells #[.int .i64 v, .slice pa cs.length ca] 24) = w4 at *
  generalize w3.heap.size = ab at *
  obtain ⟨s0, s1⟩ := HS.out _ HK4.out
  go_wp2_with fail
  refine (sch_clone v cs p cap _ HSM.out (HC.out _ HK4.out)).mono ?_
  rintro r w5 ⟨pb, cb, vb, rfl, hcb, hvb, hob, hk5⟩
  have hvl : vb.length = cs.length := by rw [← hvb, List.length_map]
  have hk6 := hk5.alloc (.cells #[.int .i64 v, .slice pb cs.length cb] 24)
  have HBB := hid (heap_alloc_new w5 (.cells #[.int .i64 v, .slice pb cs.length cb] 24))
  have HOB := hid (hob.keep0 ((Keep.refl (fun _ => False) w5).alloc (.cells #[.int .i64 v, .slice pb cs.length cb] 24)))
  have HBA6 := hid (hk6.get HBA.out (fun h => h))
  have HCA6 := hid (CP.low HCA.out (Low.keep0 hk6))
  have HKB := hid hk6
  have HK6 := hid (HK4.out.trans hk6)
  have HBL := hid (lt_of_heap HBA.out)
  have hw45 := hk5.size
  have HVB := hid hvb
  have hrow := hob.row
  rw [hvl] at hrow
  obtain ⟨g, rfl⟩ := owns_some hrow (by omega)
  have HGB := hid (hob.row.lt g rfl).1
  have HGL := hid (hob.row.lt g rfl).2
  have HFL : Hid (∀ (i : Nat) (z : Cv) (q : Addr), vb[i]? = some z → z.2.1 = some q → q.block < w5.heap.size) := hid (fun i z q hz hq => ((hob.fld i z hz).lt q.block (own_blk hq)).2)
  clear hk5 hk6 hob hvb hcb s0 s1 hrow
  go_upto_region 7 with fail
  generalize w5.alloc (.cells #[.int .i64 v, .slice (some ⟨g, 0, none⟩) cs.length cb] 24) = w6 at *
  generalize w5.heap.size = bb at *
  obtain ⟨k, hkq, hkl⟩ := mod_val at_ cs.length (by omega) (by omega)
  obtain ⟨⟨⟨xi, xn, xf⟩, xp, xz⟩, hx⟩ : ∃ x, vb[k]? = some x := ⟨vb[k]'(by omega), by simp [show k < vb.length by omega]⟩
  have hck : cs[k]? = some ⟨xi, xn, xf⟩ := by rw [← HVB.out, List.getElem?_map, hx]; rfl
  have e1 : w6.cell? ⟨bb, 1, none⟩ = some (.slice (some ⟨g, 0, none⟩) cs.length cb) := cell_of HBB.out (by rfl)
  have hor := HOB.out.row
  have c0 : w6.cell? ⟨g, k * 3, none⟩ = some (.int .i64 xi) := owns3_cell ccl_len hor hx (r := 0) rfl
  have c2 : w6.cell? ⟨g, k * 3 + 2, none⟩ = some (.slice xp xf.length xz) := owns3_cell ccl_len hor hx (r := 2) rfl
  have cf := owns_free (hvl ▸ hor) (k * 3)
  have hin : (0 : Int) ≤ (k : Int) ∧ (k : Int) < (cs.length : Int) := ⟨by omega, by omega⟩
  have hmz : ((cs.length : Int) == 0) = false := beq_eq_false_iff_ne.2 (by omega)
  have HX := hid hx; have HCK := hid hck
  clear hor hx hck hvl hz
  go_upto_region 9 with fail
  rw [hkq]
  clear hkq
  have HL0 : Hid (0 < xf.length ∨ xf.length = 0) := hid (by omega)
  go_cut [46] from 11 to 89 (fun c wx => ∃ B : Bool, c = .bool B ∧ (B = true → 0 < xf.length) ∧ w6 = wx)
  case first =>
    by_cases hlf : 0 < xf.length
    · have q1 : decide ((0 : Int) < (xf.length : Int)) = true := decide_eq_true (by omega)
      have q2 : decide (0 < xf.length) = true := decide_eq_true hlf
      by_cases ht : turn.tmod 2 = 0
      · have q3 : (turn.tmod 2 == 0) = true := beq_iff_eq.2 ht
        clear ht
        go_wp2
        go_meet
        case rel => exact ⟨true, rfl, fun _ => hlf, rfl⟩
      · have q3 : (turn.tmod 2 == 0) = false := beq_eq_false_iff_ne.2 ht
        clear ht
        go_wp2
        go_meet
        case rel => exact ⟨false, rfl, (fun h => by cases h), rfl⟩
    · have q1 : decide ((0 : Int) < (xf.length : Int)) = false := decide_eq_false (by omega)
      have q2 : decide (0 < xf.length) = false := decide_eq_false hlf
      go_wp2
      go_meet
      case rel => exact ⟨false, rfl, (fun h => by cases h), rfl⟩
  case rest =>
  obtain ⟨B, rfl, hB, rfl⟩ := hcut
  have HBT := hid hB
  have hgl := (HOB.out.row.lt g rfl).2
  go_upto_if 46 with fail
  go_cut [] from 11 to 89 (fun wx => ∃ (q : Nat) (vb' : List Cv) (y : Cv), (w4.heap.size ≤ q ∧ q < bb) ∧ Keep (fun k => k = q) w6 wx ∧ Own wx w4.heap.size (some ⟨g, 0, none⟩) cb vb' ∧ vb'.length = cs.length ∧ vb'[k]? = some y ∧ y.1 ≠ ⟨xi, xn, xf⟩ ∧ Small (vb'.map (·.1)))
  case first =>
    cases B
    · have HO2 := hid (HOB.out.setId HX.out (bits .xor .i64 xi 1))
      have hd0 : w6.drew.cell? ⟨bb, 1, none⟩ = some (.slice (some ⟨g, 0, none⟩) cs.length cb) := e1
      have hd1 : w6.drew.cell? ⟨g, k * 3, none⟩ = some (.int .i64 xi) := c0
      have hd2 : w6.drew.frozen? ⟨g, k * 3, none⟩ = false := cf
      go_wp2_with fail
      refine Plan.wp_region_pl [(false, 0, []), (false, 1, []), (false, 2, []), (false, 3, []), (false, 4, []), (false, 5, []), (false, 6, []), (false, 7, []), (false, 8, []), (false, 9, []), (false, 10, []), (false, 11, []), (true, 12, [])] (by kernel_rfl) (by kernel_rfl) ?_
      repeat (refine Plan.pl_st rfl ?_; go_big_quiet_step (fail); refine wpQuiet_nil ?_)
      refine Plan.pl_ac rfl ?_
      go_wp2
      refine Plan.plQ_mk ?_ ?_
      · exact Plan.chk_end
      refine Plan.pl_end ?_
      go_wp2
      go_meet
      case rel =>
        have hkv : k < vb.length := (List.getElem?_eq_some_iff.1 HX.out).1
        have hvl : vb.length = cs.length := by rw [← HVB.out, List.length_map]
        exact ⟨g, _, (⟨bits .xor .i64 xi 1, xn, xf⟩, xp, xz), ⟨HGB.out, HGL.out⟩, ((Keep.refl (fun k => k = g) w6).setCell (p := ⟨g, k * 3, none⟩) rfl _).drew, HO2.out.keep0 (Keep.refl _ _).drew, by rw [List.length_set]; exact hvl, List.getElem?_set_self hkv, fun e => xor_one_ne xi (by injection e), by rw [List.map_set, HVB.out]; exact small_set HSM.out (show xf.length ≤ 65536 from HSM.out.2 _ (List.mem_of_getElem? HCK.out))⟩
    · have hlf := HBT.out rfl
      obtain ⟨d, r, hd⟩ : ∃ d r, xf = d :: r := by cases xf with | nil => simp at hlf | cons d r => exact ⟨d, r, rfl⟩
      have HD := hid hd
      have hfo := HOB.out.fld k _ HX.out
      obtain ⟨f, hf⟩ := owns_some hfo hlf
      simp only at hf
      subst hf
      have hcc := owns3_cell fcl_len hfo (i := 0) (r := 2) (x := d) (u := .int .i64 d.count) (by simp only [hd]; rfl) rfl
      replace hcc : w6.cell? ⟨f, 2, none⟩ = some (.int .i64 d.count) := by simpa using hcc
      have hff := owns_free hfo 2
      have HFLT := hid (hfo.lt f rfl)
      have HO2 := hid (HOB.out.setCount HX.out rfl HD.out (bits .xor .i64 d.count 1))
      have hin0 : (0 : Int) ≤ 0 ∧ (0 : Int) < (xf.length : Int) := ⟨by omega, by omega⟩
      clear hfo hd
      go_wp2
      go_meet
      case rel =>
        have hkv : k < vb.length := (List.getElem?_eq_some_iff.1 HX.out).1
        have hvl : vb.length = cs.length := by rw [← HVB.out, List.length_map]
        exact ⟨f, _, (⟨xi, xn, ⟨d.name, d.kind, bits .xor .i64 d.count 1⟩ :: r⟩, some ⟨f, 0, none⟩, xz), ⟨HFLT.out.1, HFL.out k _ _ HX.out rfl⟩, (Keep.refl (fun k => k = f) w6).setCell (p := ⟨f, 2, none⟩) rfl _, HO2.out, by rw [List.length_set]; exact hvl, List.getElem?_set_self hkv, fun e => by have e2 : (⟨d.name, d.kind, bits .xor .i64 d.count 1⟩ :: r : List Fld) = xf := congrArg Cmp.fs e; rw [HD.out] at e2; exact xor_one_ne _ (congrArg Fld.count (List.cons.inj e2).1), by rw [List.map_set, HVB.out]; exact small_set HSM.out (by have := HSM.out.2 _ (List.mem_of_getElem? HCK.out); rw [HD.out] at this; exact this)⟩
  case rest =>
  obtain ⟨q, vb', y, hq, hkq2, hob', hvl', hy, hyx, hsm⟩ := hcut
  have hz4 := HK4.out.size
  have HKC := hid (HK6.out.trans' hkq2 (fun i hi e => by subst e; omega))
  have hk4c := HKB.out.trans' hkq2 (fun i hi e => by subst e; omega)
  have hca := CP.mono (CP.low HCA.out (Low.keep0 hk4c)) hk4c.size
  have hba : wc.heap[ab]? = _ := hk4c.get HBA.out (fun h => h)
  have hbb := hkq2.get HBB.out (fun h => by omega)
  have hcb : CP wc wc.heap.size (some ⟨g, 0, none⟩) (vb'.map (·.1)) := hob'.cp
  have hyk : (vb'.map (·.1))[k]? = some y.1 := by rw [List.getElem?_map, hy]; rfl
  have hml : (vb'.map (·.1)).length = cs.length := by rw [List.length_map]; exact hvl'
  have hne : vb'.map (·.1) ≠ cs := fun e => hyx (by rw [e, HCK.out] at hyk; injection hyk with h; exact h.symm)
  clear hvl' hy hob' hkq2 hk4c hq hz4
  generalize vb'.map (·.1) = bs at *
  obtain ⟨b1, o1, q1, z1, he1, hb1, d0, d1, d2, hd3, hf1⟩ := CP.at hcb hyk
  injection he1 with he1
  injection he1 with he1 he2 _
  subst he1 he2
  obtain ⟨b3, o3, q3, z3, rfl, hb3, d5, d6, d7, hd8, hf3⟩ := CP.at (HC.out _ HKC.out) HCK.out
  simp only at d5 d6 d7 hf3
  obtain ⟨y, yp, yz⟩ := y
  obtain ⟨yi, yn, yf⟩ := y
  simp only at d0 d1 d2 hyx hf1 hyk
  rw [Nat.zero_add] at d0 d1 d2
  have HCC : Hid (∀ wy, Keep (fun _ => False) wc.drew wy → CP wy wy.heap.size (some ⟨b3, o3, none⟩) cs ∧ CP wy wy.heap.size pa cs ∧ CP wy wy.heap.size (some ⟨g, 0, none⟩) bs ∧ FP wy wy.heap.size q1 yf ∧ FP wy wy.heap.size q3 xf) := hid (fun wy hk0 => have hk := (Keep.refl (fun _ => False) wc).drew.trans hk0
    ⟨HC.out _ (HKC.out.trans hk), CP.mono (CP.low hca (Low.keep0 hk)) hk.size, CP.mono (CP.low hcb (Low.keep0 hk)) hk.size, FP.mono (FP.low hf1 (Low.keep0 hk)) hk.size, FP.mono (FP.low hf3 (Low.keep0 hk)) hk.size⟩)
  have HW : Hid (∀ wy, Keep (fun _ => False) wc.drew wy → wy.cell? ⟨sb, 0, none⟩ = some (.int .i64 v) ∧ wy.cell? ⟨sb, 1, none⟩ = some (.slice (some ⟨b3, o3, none⟩) cs.length cap) ∧ wy.cell? ⟨ab, 0, none⟩ = some (.int .i64 v) ∧ wy.cell? ⟨ab, 1, none⟩ = some (.slice pa cs.length ca) ∧ wy.cell? ⟨bb, 0, none⟩ = some (.int .i64 v) ∧ wy.cell? ⟨bb, 1, none⟩ = some (.slice (some ⟨g, 0, none⟩) cs.length cb) ∧
      wy.cell? ⟨g, k * 3, none⟩ = some (.int .i64 yi) ∧ wy.cell? ⟨g, k * 3 + 1, none⟩ = some (.string yn) ∧ wy.cell? ⟨g, k * 3 + 2, none⟩ = some (.slice q1 yf.length z1) ∧ wy.cell? ⟨b3, o3 + k * 3, none⟩ = some (.int .i64 xi) ∧ wy.cell? ⟨b3, o3 + k * 3 + 1, none⟩ = some (.string xn) ∧ wy.cell? ⟨b3, o3 + k * 3 + 2, none⟩ = some (.slice q3 xf.length z3)) := hid (fun wy hk0 => have hk := (Keep.refl (fun _ => False) wc).drew.trans hk0
    ⟨(HS.out _ (HKC.out.trans hk)).1, (HS.out _ (HKC.out.trans hk)).2, cell_of (hk.get hba (fun h => h)) (by rfl), cell_of (hk.get hba (fun h => h)) (by rfl), cell_of (hk.get hbb (fun h => h)) (by rfl), cell_of (hk.get hbb (fun h => h)) (by rfl),
      ((Low.keep0 hk).cell hb1).trans d0, ((Low.keep0 hk).cell hb1).trans d1, ((Low.keep0 hk).cell hb1).trans d2, ((Low.keep0 hk).cell hb3).trans d5, ((Low.keep0 hk).cell hb3).trans d6, ((Low.keep0 hk).cell hb3).trans d7⟩)
  have HNE := hid hne; have HYX := hid hyx; have HSMB := hid hsm; have HML := hid hml
  have hK := Keep.refl (fun _ => False) wc.drew
  have HYL := hid (hsm.2 _ (List.mem_of_getElem? hyk))
  clear hca hcb hba hbb d0 d1 d2 d5 d6 d7 hf1 hf3 hyk hb1 hb3 hd3 hd8 hne hyx hsm hml HCA HCA6 HBA HBA6 HBB HOB HFL HGL HGB HVB HX HBT hB hs0 hgl e1 c0 c2 cf
  obtain ⟨s0, s1, s2, s3, s4, s5, s6, s7, s8, s9, t0, t1⟩ := HW.out _ hK
  go_wp2_with fail
  refine Plan.wp_region_pl [(false, 0, []), (false, 1, []), (true, 2, []), (false, 3, []), (false, 4, []), (false, 5, []), (true, 6, []), (false, 7, []), (false, 8, []), (false, 9, []), (false, 10, []), (false, 11, []), (false, 12, []), (false, 13, []), (false, 14, []), (false, 15, []), (false, 16, []), (false, 17, []), (false, 18, []), (false, 19, []), (true, 20, []), (false, 21, []), (false, 22, []), (false, 23, [])] (by kernel_rfl) (by kernel_rfl) ?_
  iterate 2 (refine Plan.pl_st rfl ?_; go_big_quiet_step (fail); refine wpQuiet_nil ?_)
  as_aux_lemma =>
   refine Plan.pl_ac rfl ?_
   go_wp2_with fail
   refine (sch_same v v cs cs pa (some ⟨b3, o3, none⟩) ca cap _ HSM.out (HCC.out _ hK).2.1 (HCC.out _ hK).1).mono ?_
   rintro r y1 ⟨rfl, hk1⟩
   rw [decide_eq_true (⟨rfl, rfl⟩ : v = v ∧ cs = cs)]
   replace hK := hK.trans hk1
   clear hk1 s0 s1 s2 s3 s4 s5 s6 s7 s8 s9 t0 t1
   obtain ⟨s0, s1, s2, s3, s4, s5, s6, s7, s8, s9, t0, t1⟩ := HW.out _ hK
   go_wp2
   refine Plan.plQ_mk ?_ ?_
   · exact Plan.chk_end
   iterate 3 (refine Plan.pl_st rfl ?_; go_big_quiet_step (fail); refine wpQuiet_nil ?_)
   as_aux_lemma =>
    refine Plan.pl_ac rfl ?_
    go_wp2_with fail
    refine ((HML.out ▸ sch_same v v bs cs (some ⟨g, 0, none⟩) (some ⟨b3, o3, none⟩) cb cap _ HSMB.out (HCC.out _ hK).2.2.1 (HCC.out _ hK).1 : Calls _ _ #[.agg #[.int .i64 v, .slice (some ⟨g, 0, none⟩) cs.length cb], _] _ _)).mono ?_
    rintro r y2 ⟨rfl, hk2⟩
    rw [decide_eq_false (fun h : v = v ∧ bs = cs => HNE.out h.2)]
    replace hK := hK.trans hk2
    clear hk2 s0 s1 s2 s3 s4 s5 s6 s7 s8 s9 t0 t1
    obtain ⟨s0, s1, s2, s3, s4, s5, s6, s7, s8, s9, t0, t1⟩ := HW.out _ hK
    go_wp2
    refine Plan.plQ_mk ?_ ?_
    · exact Plan.chk_end
    iterate 13 (refine Plan.pl_st rfl ?_; go_big_quiet_step (fail); refine wpQuiet_nil ?_)
    as_aux_lemma =>
     refine Plan.pl_ac rfl ?_
     go_wp2_with fail
     refine (same_comp ⟨yi, yn, yf⟩ ⟨xi, xn, xf⟩ q1 q3 z1 z3 _ HYL.out (HCC.out _ hK).2.2.2.1 (HCC.out _ hK).2.2.2.2).mono ?_
     rintro r y3 ⟨rfl, hk3⟩
     rw [decide_eq_false HYX.out]
     replace hK := hK.trans hk3
     clear hk3 s0 s1 s2 s3 s4 s5 s6 s7 s8 s9 t0 t1
     obtain ⟨s0, s1, s2, s3, s4, s5, s6, s7, s8, s9, t0, t1⟩ := HW.out _ hK
     go_wp2
     refine Plan.plQ_mk ?_ ?_
     · exact Plan.chk_end
     iterate 3 (refine Plan.pl_st rfl ?_; go_big_quiet_step (fail); refine wpQuiet_nil ?_)
     refine Plan.pl_end ?_
     go_wp2
     go_ret
     exact ⟨rfl, (HK0.out.trans (HKC.out.drew.trans hK)).below⟩
theorem clones_true (v : Int) (p : Option Addr) (cap : Nat) (cs : List Cmp) (at_ turn : Int) (w : World) (hf : CP w w.heap.size p cs) :
    Calls Try.prog 6 #[.agg #[.int .i64 v, .slice p cs.length cap], .int .i64 at_, .int .i64 turn] w fun r w' => r = .returned (.bool true) ∧ Below w.heap.size w w' :=
  clones_walk v at_ turn cs p cap w hf
end Go.Proofs.Ythpafpgillnimaa
