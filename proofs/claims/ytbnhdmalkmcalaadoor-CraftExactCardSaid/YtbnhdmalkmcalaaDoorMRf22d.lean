/- What is proved: what the reference's Check of a system answers: what the program's Check answers. -/
import Derived.Test.YtbnhdmalkmcalaaDoorMRf10
import Derived.Test.YtbnhdmalkmcalaaDoorMRf22b
import Derived.Test.YtbnhdmalkmcalaaDoorMSchFields
import Derived.Test.YtbnhdmalkmcalaaDoorMRegion
import Derived.Test.YtbnhdmalkmcalaaDoorMCrLine
namespace Go.Proofs.YtbnhdmalkmcalaaDoor
open Go.RowKit Go.Proofs.Heap Go.Proofs.Sch

theorem info_op5 : (Tryd.prog.info? 83).map (·.size) = some 5 := by kernel_rfl
/-- An instruction of the reference, read whole. -/
theorem load_op {w : World} {b o : Nat} {x : VOp} (h0 : w.cell? ⟨b, o, none⟩ = some (.int .i64 x.code)) (h1 : w.cell? ⟨b, o + 1, none⟩ = some (.int .i64 x.a)) (h2 : w.cell? ⟨b, o + 2, none⟩ = some (.int .i64 x.b)) (h3 : w.cell? ⟨b, o + 3, none⟩ = some (.int .i64 x.c)) (h4 : w.cell? ⟨b, o + 4, none⟩ = some (.int .i64 x.k)) :
    (loadVar 83 ⟨b, o, none⟩).run Tryd.prog w = .ok (OV x) w := by
  have hl : (loadCells ⟨b, o, none⟩ 5).run Tryd.prog w = .ok (OC x) w :=
    run_loadCells_list (P := Tryd.prog) w ⟨b, o, none⟩ [.int .i64 x.code, .int .i64 x.a, .int .i64 x.b, .int .i64 x.c, .int .i64 x.k] (fun j v hv => by
      rw [show (⟨b, o, none⟩ : Addr).add j = ⟨b, o + j, none⟩ by unfold Addr.add; split <;> simp_all]
      match j with
      | 0 => simp at hv; rw [← hv]; exact h0
      | 1 => simp at hv; rw [← hv]; exact h1
      | 2 => simp at hv; rw [← hv]; exact h2
      | 3 => simp at hv; rw [← hv]; exact h3
      | 4 => simp at hv; rw [← hv]; exact h4
      | j + 5 => simp at hv)
  cases hq : Tryd.prog.info? 83 with
  | none => have := info_op5; rw [hq] at this; cases this
  | some i =>
    have hs : i.size = 5 := by have := info_op5; rw [hq] at this; simpa using this
    have hagg : (isAgg 83).run Tryd.prog w = .ok true w := by
      unfold isAgg
      rw [Sem.run_bind, run_underlying Tryd.underlying83 w]
      simp
    simp [loadVar, Sem.run_bind, hagg, sizeOf, typeInfo, hq, hs, hl]

set_option maxRecDepth 20000 in
set_option maxHeartbeats 16000000 in
theorem r_check22 (s : VSys) (pa : Option Addr) (ca : Nat) (pc : Option Addr) (cc : Nat) (w : World) (h1 : s.all < 4294967296) (h2 : s.none < 4294967296) (ha : TP w w.heap.size pa s.after) (hc : VP w w.heap.size pc s.code) :
    Calls Tryd.prog 12 #[SysV s pa ca pc cc] w fun r w' => r = .returned (.int .i64 (sysC s : Int)) ∧ Keep (fun _ => False) w w' := by
  obtain ⟨w1, hw1, hb1, hs1, hk1⟩ := box1 w (SysC s pa ca pc cc) 32
  have HK1 := hid hk1
  have HB1 := hid hb1
  have HA : Hid (∀ wy, Keep (fun _ => False) w1 wy → TP wy wy.heap.size pa s.after) := hid (fun wy hk => TP.mono (TP.low ha (Low.keep0 (hk1.trans hk))) (hk1.trans hk).size)
  have HV : Hid (∀ wy, Keep (fun _ => False) w1 wy → VP wy wy.heap.size pc s.code) := hid (fun wy hk => VP.mono (VP.low hc (Low.keep0 (hk1.trans hk))) (hk1.trans hk).size)
  have H1 := hid h1; have H2 := hid h2
  have HR : Hid (sysC s = if nameB s.name = false then 4 else if s.stage < 0 ∨ 9 < s.stage then 1 else if afterC s.name s.after ≠ 0 then afterC s.name s.after
    else if (isSig s.all && isSig s.none) = false then 1 else if meetsB s.all s.none = true then 7 else if 64 < s.code.length then 5
    else if s.code.all (goodOp s.code.length) = true then 0 else 4) := hid rfl
  generalize sysC s = R at *
  clear hb1 hs1 hk1 ha hc h1 h2
  have HC : Hid (∀ wy, Keep (fun _ => False) w1 wy → wy.cell? ⟨w.heap.size, 0, none⟩ = some (.string s.name) ∧ wy.cell? ⟨w.heap.size, 1, none⟩ = some (.int .i64 s.stage) ∧ wy.cell? ⟨w.heap.size, 2, none⟩ = some (.slice pa s.after.length ca) ∧ wy.cell? ⟨w.heap.size, 3, none⟩ = some (.int .u32 (s.all : Int)) ∧ wy.cell? ⟨w.heap.size, 4, none⟩ = some (.int .u32 (s.none : Int)) ∧ wy.cell? ⟨w.heap.size, 5, none⟩ = some (.slice pc s.code.length cc)) := hid (fun wy hk =>
    ⟨cell_of (hk.get HB1.out id) (by rfl), cell_of (hk.get HB1.out id) (by rfl), cell_of (hk.get HB1.out id) (by rfl), cell_of (hk.get HB1.out id) (by rfl), cell_of (hk.get HB1.out id) (by rfl), cell_of (hk.get HB1.out id) (by rfl)⟩)
  go_enter Tryd.func12, Tryd.ntmps12
  go_upto_region 1 with fail
  rw [← hw1]
  clear hw1
  generalize w.heap.size = sb at *
  obtain ⟨c0, c1, c2, c3, c4, c5⟩ := HC.out _ (Keep.refl _ _)
  go_wp2_with fail
  refine (r_name s.name _).mono ?_
  rintro r w_ ⟨rfl, rfl⟩
  cases hnb : nameB s.name
  · have G : Hid (R = 4) := hid (by rw [HR.out, if_pos hnb])
    clear hnb
    go_wp2
    go_ret
    exact ⟨by rw [G.out]; rfl, HK1.out⟩
  have HR1 : Hid (R = if s.stage < 0 ∨ 9 < s.stage then 1 else if afterC s.name s.after ≠ 0 then afterC s.name s.after
    else if (isSig s.all && isSig s.none) = false then 1 else if meetsB s.all s.none = true then 7 else if 64 < s.code.length then 5
    else if s.code.all (goodOp s.code.length) = true then 0 else 4) := hid (by rw [HR.out, if_neg (by rw [hnb]; simp)])
  clear hnb HR
  by_cases hs0 : s.stage < 0
  · have e1 : decide (s.stage < 0) = true := decide_eq_true hs0
    have G : Hid (R = 1) := hid (by rw [HR1.out, if_pos (.inl hs0)])
    go_wp2
    go_ret
    exact ⟨by rw [G.out]; rfl, HK1.out⟩
  have e1 : decide (s.stage < 0) = false := decide_eq_false hs0
  by_cases hs9 : 9 < s.stage
  · have e2 : decide (9 < s.stage) = true := decide_eq_true hs9
    have G : Hid (R = 1) := hid (by rw [HR1.out, if_pos (.inr hs9)])
    go_wp2
    go_ret
    exact ⟨by rw [G.out]; rfl, HK1.out⟩
  have e2 : decide (9 < s.stage) = false := decide_eq_false hs9
  have HR2 : Hid (R = if afterC s.name s.after ≠ 0 then afterC s.name s.after
    else if (isSig s.all && isSig s.none) = false then 1 else if meetsB s.all s.none = true then 7 else if 64 < s.code.length then 5
    else if s.code.all (goodOp s.code.length) = true then 0 else 4) := hid (by rw [HR1.out, if_neg (by omega)])
  clear HR1 hs0 hs9
  by_cases h4 : 4 < s.after.length
  · have g1 : decide ((4 : Int) < (s.after.length : Int)) = true := decide_eq_true (by omega)
    have g2 : decide (4 < s.after.length) = true := decide_eq_true h4
    have G : Hid (R = 5) := hid (by rw [HR2.out, show afterC s.name s.after = 5 by unfold afterC; rw [if_pos h4]]; rfl)
    go_wp2
    go_ret
    exact ⟨by rw [G.out]; rfl, HK1.out⟩
  have g1 : decide ((4 : Int) < (s.after.length : Int)) = false := decide_eq_false (by omega)
  have g2 : decide (4 < s.after.length) = false := decide_eq_false h4
  have HBAD : Hid (∀ k, k < s.after.length → afterAt s.name s.after k = false → R = 4) := hid (fun k hk h => by
    have e : afterC s.name s.after = 4 := by
      unfold afterC
      rw [if_neg h4, if_neg]
      intro h2
      rw [List.all_eq_true] at h2
      rw [h2 k (List.mem_range.2 hk)] at h
      cases h
    rw [HR2.out, e]; rfl)
  have HR3 : Hid ((∀ k, k < s.after.length → afterAt s.name s.after k = true) → R = if (isSig s.all && isSig s.none) = false then 1 else if meetsB s.all s.none = true then 7 else if 64 < s.code.length then 5
    else if s.code.all (goodOp s.code.length) = true then 0 else 4) := hid (fun h => by
    have e : afterC s.name s.after = 0 := by
      unfold afterC
      rw [if_neg h4, if_pos (by rw [List.all_eq_true]; intro j hj; exact h j (List.mem_range.1 hj))]
    rw [HR2.out, e]; rfl)
  clear HR2
  go_wp2_with fail
  clear g1 g2 e1 e2 c0 c1 c2 c3 c4 c5
  go_loopw [3, 4] (fun i _ wr => ∃ k : Nat, k ≤ s.after.length ∧ i = iV k ∧ (∀ j, j < k → afterAt s.name s.after j = true) ∧ Keep (fun _ => False) w1 wr) (fun i _ _ => s.after.length + 1 - (intOf i).toNat)
  case atStart => exact ⟨0, by omega, rfl, fun j h => by omega, Keep.refl _ _⟩
  case round =>
    obtain ⟨k, hk, rfl, hall, hkr⟩ := hrel
    have HAL := hid hall; have HKR := hid hkr
    clear hall hkr
    obtain ⟨c0, c1, c2, c3, c4, c5⟩ := HC.out _ HKR.out
    by_cases hlt : k < s.after.length
    rotate_left
    · obtain rfl : k = s.after.length := by omega
      have HR4 := hid (HR3.out HAL.out)
      clear HR3 HBAD
      have g1 : decide ((s.after.length : Int) < (s.after.length : Int)) = false := decide_eq_false (by omega)
      have g2 : decide (s.after.length < s.after.length) = false := decide_eq_false (by omega)
      go_wp2_with fail
      refine (r_is s.all H1.out _).mono ?_
      rintro r w2 ⟨rfl, hk2⟩
      have HK2 := hid (HKR.out.trans hk2)
      clear hk2 c0 c1 c2 c3 c4 c5 g1 g2
      obtain ⟨c0, c1, c2, c3, c4, c5⟩ := HC.out _ HK2.out
      cases hi1 : isSig s.all
      · have G : Hid (R = 1) := hid (by rw [HR4.out, if_pos (by rw [hi1]; rfl)])
        clear hi1
        go_wp2
        go_ret
        exact ⟨by rw [G.out]; rfl, HK1.out.trans HK2.out⟩
      go_wp2_with fail
      refine (r_is s.none H2.out _).mono ?_
      rintro r w3 ⟨rfl, hk3⟩
      have HK3 := hid (HK2.out.trans hk3)
      clear hk3 c0 c1 c2 c3 c4 c5
      obtain ⟨c0, c1, c2, c3, c4, c5⟩ := HC.out _ HK3.out
      cases hi2 : isSig s.none
      · have G : Hid (R = 1) := hid (by rw [HR4.out, if_pos (by rw [hi1, hi2]; rfl)])
        clear hi1 hi2
        go_wp2
        go_ret
        exact ⟨by rw [G.out]; rfl, HK1.out.trans HK3.out⟩
      have HR5 : Hid (R = if meetsB s.all s.none = true then 7 else if 64 < s.code.length then 5 else if s.code.all (goodOp s.code.length) = true then 0 else 4) := hid (by rw [HR4.out, if_neg (by rw [hi1, hi2]; simp)])
      have HME := hid (meets_bits (b := s.none) H1.out hi1)
      clear HR4 hi1 hi2
      have hz := zero_bits 0
      have hszA := bA_size s.all 32
      have hszB := bA_size s.none 32
      go_wp2_with fail
      refine (r_bits s.all H1.out _).mono ?_
      rintro r w4 ⟨rfl, hk4⟩
      obtain ⟨w5, hst5, hb5, hk5, hlt5⟩ := bits_new s.all 0 w4
      have HK5 := hid (HK3.out.trans (hk4.trans hk5))
      have HB5 := hid hb5
      have HL5 := hid hlt5
      clear hk4 hb5 hk5 hlt5 c0 c1 c2 c3 c4 c5
      obtain ⟨c0, c1, c2, c3, c4, c5⟩ := HC.out _ HK5.out
      go_wp2_with fail
      refine (r_bits s.none H2.out _).mono ?_
      rintro r w6 ⟨rfl, hk6⟩
      obtain ⟨w7, hst7, hb7, hk7, hlt7⟩ := bits_new s.none 0 w6
      have HK7 := hid (HK5.out.trans (hk6.trans hk7))
      have HB7 := hid hb7
      have HA7 := hid (HB5.out.keep (hk6.trans hk7) id)
      clear hk6 hb7 hk7 hlt7 hst5 c0 c1 c2 c3 c4 c5
      obtain ⟨c0, c1, c2, c3, c4, c5⟩ := HC.out _ HK7.out
      go_wp2_with fail
      clear hst7 hz hszA hszB
      generalize w4.heap.size = ua at *
      generalize w6.heap.size = ub at *
      go_loopw [7] (fun i wr => ∃ k : Nat, k ≤ 32 ∧ i = iV k ∧ (∀ j, j < k → ¬ (s.all.testBit j = true ∧ s.none.testBit j = true)) ∧ w7 = wr) (fun i _ => 33 - (intOf i).toNat)
      case atStart => exact ⟨0, by omega, rfl, fun j h => by omega, rfl⟩
      case round =>
        obtain ⟨k, hk, rfl, hno, rfl⟩ := hrel
        have HNO := hid hno
        clear hno
        by_cases hlt : k < 32
        · have hltI : (k : Int) < 32 := by omega
          have hin : (0 : Int) ≤ (k : Int) ∧ (k : Int) < 32 := ⟨by omega, by omega⟩
          have d0 := HA7.out.bit hlt
          have d1 := HB7.out.bit hlt
          have HY : Hid (s.all.testBit k = true ∧ s.none.testBit k = true → R = 7) := hid (fun h => by
            rw [HR5.out, if_pos (HME.out.2 ⟨k, hlt, h⟩)])
          have HN : Hid (¬ (s.all.testBit k = true ∧ s.none.testBit k = true) → ∀ j, j < k + 1 → ¬ (s.all.testBit j = true ∧ s.none.testBit j = true)) := hid (fun h j hj => by
            by_cases hjk : j < k
            · exact HNO.out j hjk
            · obtain rfl : j = k := by omega
              exact h)
          cases ha : s.all.testBit k
          · have G := hid (HN.out (by rw [ha]; simp))
            rw [ha] at d0
            clear ha
            go_wp2
            go_roundw
            case rel => exact ⟨k + 1, by omega, by go_num, G.out, by first | rfl | trivial⟩
            case measure => simp [intOf]; omega
          cases hb : s.none.testBit k
          · have G := hid (HN.out (by rw [hb]; simp))
            rw [ha] at d0
            rw [hb] at d1
            clear ha hb
            go_wp2
            go_roundw
            case rel => exact ⟨k + 1, by omega, by go_num, G.out, by first | rfl | trivial⟩
            case measure => simp [intOf]; omega
          · have G := hid (HY.out ⟨ha, hb⟩)
            rw [ha] at d0
            rw [hb] at d1
            clear ha hb
            go_wp2
            go_ret
            exact ⟨by rw [G.out]; rfl, HK1.out.trans HK7.out⟩
        · obtain rfl : k = 32 := by omega
          have HR6 : Hid (R = if 64 < s.code.length then 5 else if s.code.all (goodOp s.code.length) = true then 0 else 4) := hid (by
            rw [HR5.out, if_neg]
            intro h
            obtain ⟨i, hi, h1, h2⟩ := HME.out.1 h
            exact HNO.out i hi ⟨h1, h2⟩)
          clear HR5 HNO HME
          by_cases hl : 64 < s.code.length
          · have g1 : decide ((64 : Int) < (s.code.length : Int)) = true := decide_eq_true (by omega)
            have g2 : decide (64 < s.code.length) = true := decide_eq_true hl
            have G : Hid (R = 5) := hid (by rw [HR6.out, if_pos hl])
            go_wp2
            go_ret
            exact ⟨by rw [G.out]; rfl, HK1.out.trans HK7.out⟩
          have g1 : decide ((64 : Int) < (s.code.length : Int)) = false := decide_eq_false (by omega)
          have g2 : decide (64 < s.code.length) = false := decide_eq_false hl
          have HR7 : Hid (R = if s.code.all (goodOp s.code.length) = true then 0 else 4) := hid (by rw [HR6.out, if_neg hl])
          clear HR6
          go_wp2_with fail
          clear g1 g2 c0 c1 c2 c3 c4 c5
          go_loopw [8] (fun i wy => ∃ m : Nat, m ≤ s.code.length ∧ i = iV m ∧ (∀ x ∈ s.code.take m, goodOp s.code.length x = true) ∧ Keep (fun _ => False) w1 wy) (fun i _ => s.code.length + 1 - (intOf i).toNat)
          case atStart => exact ⟨0, by omega, rfl, by simp, HK7.out⟩
          case round =>
            obtain ⟨m, hm, rfl, hgo, hkm⟩ := hrel
            have HGO := hid hgo; have HKM := hid hkm
            clear hgo hkm
            by_cases hml : m < s.code.length
            · obtain ⟨x, hx⟩ : ∃ x, s.code[m]? = some x := ⟨s.code[m], by simp [hml]⟩
              have hin : (0 : Int) ≤ (m : Int) ∧ (m : Int) < (s.code.length : Int) := ⟨by omega, by omega⟩
              obtain ⟨b, off, rfl, hb, x0, x1, x2, x3, x4⟩ := VP.at (HV.out _ HKM.out.drew) hx
              have hld := load_op x0 x1 x2 x3 x4
              have HX := hid hx
              clear hx hb x0 x1 x2 x3 x4
              obtain ⟨c0, c1, c2, c3, c4, c5⟩ := HC.out _ HKM.out
              go_upto_region 31 with fail
              clear c0 c1 c2 c3 c4 c5
              obtain ⟨c0, c1, c2, c3, c4, c5⟩ := HC.out _ HKM.out.drew
              refine Plan.wp_region_pl [(false, 0, []), (false, 1, []), (false, 2, []), (false, 3, []), (false, 4, []), (false, 5, []), (false, 6, []), (false, 7, []), (true, 8, []), (false, 9, [])] (by as_aux_lemma => kernel_rfl) (by as_aux_lemma => kernel_rfl) ?_
              iterate 4 (refine Plan.pl_st rfl ?_; go_big_quiet_step (fail); refine wpQuiet_nil ?_)
              refine Plan.pl_st rfl ?_
              refine Plan.wpQuiet_load rfl 83 _ rfl _ rfl _ hld ?_
              simp only [Act.put, List.setIfInBounds_toArray, List.set_cons_succ, List.set_cons_zero]
              refine wpQuiet_nil ?_
              iterate 3 (refine Plan.pl_st rfl ?_; go_big_quiet_step (fail); refine wpQuiet_nil ?_)
              refine Plan.pl_ac rfl ?_
              have HG := hid (r_good x s.code.length wr.drew)
              have HKD := hid HKM.out.drew
              clear hld
              go_wp2_with fail
              refine HG.out.mono ?_
              rintro r w9 ⟨rfl, hk9⟩
              have HK9 := hid (HKD.out.trans hk9)
              clear hk9 HG
              go_wp2
              refine Plan.plQ_mk Plan.chk_end ?_
              cases hg : goodOp s.code.length x
              · have G : Hid (R = 4) := hid (by
                  rw [HR7.out, if_neg]
                  intro h
                  rw [List.all_eq_true] at h
                  rw [h x (List.mem_of_getElem? HX.out)] at hg
                  cases hg)
                clear hg
                iterate 1 (refine Plan.pl_st rfl ?_; go_big_quiet_step (fail); refine wpQuiet_nil ?_)
                refine Plan.pl_end ?_
                go_wp2
                go_ret
                exact ⟨by rw [G.out]; rfl, HK1.out.trans HK9.out⟩
              · have G : Hid (∀ y ∈ s.code.take (m + 1), goodOp s.code.length y = true) := hid (fun y hy => by
                  rw [take_next HX.out] at hy
                  rcases List.mem_append.1 hy with h | h
                  · exact HGO.out y h
                  · rw [List.mem_singleton.1 h]; exact hg)
                clear hg
                iterate 1 (refine Plan.pl_st rfl ?_; go_big_quiet_step (fail); refine wpQuiet_nil ?_)
                refine Plan.pl_end ?_
                go_wp2
                go_roundw
                case rel => exact ⟨m + 1, by omega, by go_num, G.out, HK9.out⟩
                case measure => simp [intOf]; omega
            · obtain rfl : m = s.code.length := by omega
              have G : Hid (R = 0) := hid (by rw [HR7.out, if_pos (by rw [List.all_eq_true]; intro x hx; exact HGO.out x (by rwa [List.take_length]))])
              obtain ⟨c0, c1, c2, c3, c4, c5⟩ := HC.out _ HKM.out
              have g1 : decide ((s.code.length : Int) < (s.code.length : Int)) = false := decide_eq_false (by omega)
              have g2 : decide (s.code.length < s.code.length) = false := decide_eq_false (by omega)
              go_wp2
              go_ret
              exact ⟨by rw [G.out]; rfl, HK1.out.trans HKM.out⟩
    · obtain ⟨t, htk⟩ : ∃ t, s.after[k]? = some t := ⟨s.after[k], by simp [hlt]⟩
      have HNO : Hid (afterAt s.name s.after k = false → R = 4) := hid (HBAD.out k hlt)
      have HAT : Hid (afterAt s.name s.after k = (nameB t && (!decide (t = s.name) && !memS t (s.after.take k)))) := hid (by unfold afterAt; rw [htk])
      have HYES : Hid (afterAt s.name s.after k = true → ∀ j, j < k + 1 → afterAt s.name s.after j = true) := hid (fun h j hj => by
        by_cases hjk : j < k
        · exact HAL.out j hjk
        · have : j = k := by omega
          subst this; exact h)
      have HTK := hid htk
      have HTP : Hid (∀ wy, Keep (fun _ => False) w1 wy → ∀ (m : Nat) (u : ByteArray), s.after[m]? = some u → ∃ b off, pa = some ⟨b, off, none⟩ ∧ wy.cell? ⟨b, off + m, none⟩ = some (.string u)) := hid (fun wy hk m u hu => by
        obtain ⟨b, off, h1, _, h2⟩ := TP.at (HA.out wy hk) hu
        exact ⟨b, off, h1, h2⟩)
      obtain ⟨b, off, rfl, d0⟩ := HTP.out _ HKR.out.drew k t htk
      have HPT : Hid (∀ wy, Keep (fun _ => False) w1 wy → ∀ (m : Nat) (u : ByteArray), s.after[m]? = some u → wy.cell? ⟨b, off + m, none⟩ = some (.string u)) := hid (fun wy hk m u hu => by
        obtain ⟨b', off', h1, h2⟩ := HTP.out wy hk m u hu
        injection h1 with h1
        injection h1 with e1 e2
        subst e1; subst e2
        exact h2)
      have hin : (0 : Int) ≤ (k : Int) ∧ (k : Int) < (s.after.length : Int) := ⟨by omega, by omega⟩
      have hsq := seq_dec t s.name
      clear htk HTP
      go_upto_region 10 with fail
      clear c0 c1 c2 c3 c4 c5
      obtain ⟨c0, c1, c2, c3, c4, c5⟩ := HC.out _ HKR.out.drew
      refine Plan.wp_region_pl [(false, 0, []), (false, 1, []), (false, 2, []), (false, 3, []), (false, 4, []), (true, 5, []), (false, 6, []), (false, 7, []), (false, 8, []), (false, 9, []), (false, 10, []), (false, 11, []), (false, 12, []), (false, 13, []), (false, 14, []), (false, 15, []), (false, 16, [])] (by as_aux_lemma => kernel_rfl) (by as_aux_lemma => kernel_rfl) ?_
      iterate 5 (refine Plan.pl_st rfl ?_; go_big_quiet_step (fail); refine wpQuiet_nil ?_)
      refine Plan.pl_ac rfl ?_
      go_wp2_with fail
      refine (r_name t _).mono ?_
      rintro r w_ ⟨rfl, rfl⟩
      have HKD := hid HKR.out.drew
      go_wp2
      refine Plan.plQ_mk Plan.chk_end ?_
      cases hnb : nameB t
      · have G := hid (HNO.out (by rw [HAT.out, hnb]; rfl))
        clear hnb
        iterate 11 (refine Plan.pl_st rfl ?_; go_big_quiet_step (fail); refine wpQuiet_nil ?_)
        refine Plan.pl_end ?_
        go_wp2
        go_ret
        exact ⟨by rw [G.out]; rfl, HK1.out.trans HKD.out⟩
      cases hd : decide (t = s.name)
      rotate_left
      · have G := hid (HNO.out (by rw [HAT.out, hnb, hd]; rfl))
        rw [hd] at hsq
        clear hnb hd
        iterate 11 (refine Plan.pl_st rfl ?_; go_big_quiet_step (fail); refine wpQuiet_nil ?_)
        refine Plan.pl_end ?_
        go_wp2
        go_ret
        exact ⟨by rw [G.out]; rfl, HK1.out.trans HKD.out⟩
      rw [hd] at hsq
      have HAT2 : Hid (afterAt s.name s.after k = !memS t (s.after.take k)) := hid (by rw [HAT.out, hnb, hd]; simp)
      clear hnb hd HAT
      iterate 11 (refine Plan.pl_st rfl ?_; go_big_quiet_step (fail); refine wpQuiet_nil ?_)
      refine Plan.pl_end ?_
      clear hsq d0
      go_wp2_with fail
      clear c0 c1 c2 c3 c4 c5
      go_loopw [4] (fun i wy => ∃ m : Nat, m ≤ k ∧ i = iV m ∧ (∀ u ∈ s.after.take m, u ≠ t) ∧ Keep (fun _ => False) w1 wy) (fun i _ => k + 1 - (intOf i).toNat)
      case atStart => exact ⟨0, by omega, rfl, by simp, HKD.out⟩
      case round =>
        obtain ⟨m, hm, rfl, hno, hkm⟩ := hrel
        have HM := hid hno; have HKM := hid hkm
        clear hno hkm
        by_cases hmk : m < k
        · obtain ⟨u, hu⟩ : ∃ u, s.after[m]? = some u := ⟨s.after[m], by simp [show m < s.after.length by omega]⟩
          have hinm : (0 : Int) ≤ (m : Int) ∧ (m : Int) < (s.after.length : Int) := ⟨by omega, by omega⟩
          have hsq := seq_dec u t
          have HU := hid hu
          have d0 := HPT.out _ HKM.out.drew m u hu
          have d1 := HPT.out _ HKM.out.drew k t HTK.out
          clear hu
          go_upto_region 15 with fail
          obtain ⟨c0, c1, c2, c3, c4, c5⟩ := HC.out _ HKM.out.drew
          refine Plan.wp_region_pl [(false, 0, []), (false, 1, []), (false, 2, []), (false, 3, []), (false, 4, []), (false, 5, []), (false, 6, []), (false, 7, []), (false, 8, []), (false, 9, []), (false, 10, [])] (by as_aux_lemma => kernel_rfl) (by as_aux_lemma => kernel_rfl) ?_
          cases hd : decide (u = t)
          · have G : Hid (∀ x ∈ s.after.take (m + 1), x ≠ t) := hid (fun x hx => by
              rw [take_next HU.out] at hx
              rcases List.mem_append.1 hx with h | h
              · exact HM.out x h
              · rw [List.mem_singleton.1 h]; exact of_decide_eq_false hd)
            have HKX := hid HKM.out.drew
            rw [hd] at hsq
            clear hd
            iterate 11 (refine Plan.pl_st rfl ?_; go_big_quiet_step (fail); refine wpQuiet_nil ?_)
            refine Plan.pl_end ?_
            go_wp2
            go_roundw
            case rel => exact ⟨m + 1, by omega, by go_num, G.out, HKX.out⟩
            case measure => simp [intOf]; omega
          · have G := hid (HNO.out (by
              rw [HAT2.out, show memS t (s.after.take k) = true from List.any_eq_true.2 ⟨u, List.mem_of_getElem? (i := m) (by rw [List.getElem?_take_of_lt hmk]; exact HU.out), decide_eq_true (of_decide_eq_true hd).symm⟩]; rfl))
            have HKX := hid HKM.out.drew
            rw [hd] at hsq
            clear hd
            iterate 11 (refine Plan.pl_st rfl ?_; go_big_quiet_step (fail); refine wpQuiet_nil ?_)
            refine Plan.pl_end ?_
            go_wp2
            go_ret
            exact ⟨by rw [G.out]; rfl, HK1.out.trans HKX.out⟩
        · obtain rfl : m = k := by omega
          have G : Hid (∀ j, j < m + 1 → afterAt s.name s.after j = true) := hid (HYES.out (by
            rw [HAT2.out, show memS t (s.after.take m) = false from List.any_eq_false.2 (fun u hu => by
              simp only [decide_eq_true_iff]
              exact fun e => HM.out u hu e.symm)]; rfl))
          have g1 : decide ((m : Int) < (m : Int)) = false := decide_eq_false (by omega)
          have g2 : decide (m < m) = false := decide_eq_false (by omega)
          go_wp2
          go_roundw
          case rel => exact ⟨m + 1, by omega, by go_num, G.out, HKM.out⟩
          case measure => simp [intOf]; omega
end Go.Proofs.YtbnhdmalkmcalaaDoor
