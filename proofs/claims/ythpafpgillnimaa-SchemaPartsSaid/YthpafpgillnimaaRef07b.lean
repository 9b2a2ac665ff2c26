/- What is proved: what the reference's Part and Parts answer: what the program's checks of parts do. -/
import Derived.Test.YthpafpgillnimaaRef05b
import Derived.Test.YthpafpgillnimaaSchExactLaw
import Derived.Test.YthpafpgillnimaaSchParts
namespace Go.Proofs.Ythpafpgillnimaa
open Go.RowKit Go.Proofs.Heap Go.Proofs.Sch Go.Proofs.Wide

set_option maxRecDepth 20000 in
set_option maxHeartbeats 4000000 in
theorem r_part (v : Int) (cs : List Cmp) (p : Option Addr) (cap : Nat) (x : Prt) (q : Option Addr) (qc : Nat) (w : World) (hl : Small cs) (hfit : ∀ y ∈ x.vals, y.fit) (hf : CP w w.heap.size p cs) (hv : XP w w.heap.size q x.vals) :
    Calls Try.prog 20 #[.agg #[.int .i64 v, .slice p cs.length cap], .agg #[.int .i64 x.comp, .slice q x.vals.length qc]] w fun r w' => r = .returned (iV (partC cs x)) ∧ Keep (fun _ => False) w w' := by
  obtain ⟨xc, xv⟩ := x
  simp only at hfit hv
  have hb1 := heap_alloc_new w (.cells #[.int .i64 v, .slice p cs.length cap] 24)
  have hb2 := heap_alloc_new (w.alloc (.cells #[.int .i64 v, .slice p cs.length cap] 24)) (.cells #[.int .i64 xc, .slice q xv.length qc] 50)
  have e1 : (w.alloc (.cells #[.int .i64 v, .slice p cs.length cap] 24)).heap.size = w.heap.size + 1 := by simp
  have hb1' := ((Keep.refl (fun _ => False) (w.alloc (.cells #[.int .i64 v, .slice p cs.length cap] 24))).alloc (.cells #[.int .i64 xc, .slice q xv.length qc] 50)).get hb1 id
  rw [e1] at hb2
  have hk := ((Keep.refl (fun _ => False) w).alloc (.cells #[.int .i64 v, .slice p cs.length cap] 24)).alloc (.cells #[.int .i64 xc, .slice q xv.length qc] 50)
  have HA := hid hb1'; have HB := hid hb2; have HK0 := hid hk
  have HF0 := hid (CP.mono (CP.low hf (Low.keep0 hk)) hk.size)
  have HV0 := hid (XP.mono (XP.low hv (Low.keep0 hk)) hk.size)
  have HSM := hid hl; have HX := hid hfit
  clear hb1 hb2 hb1' e1 hk hf hv hl hfit
  go_enter Try.func20, Try.ntmps20
  go_upto_region 1 with fail
  generalize (w.alloc (.cells #[.int .i64 v, .slice p cs.length cap] 24)).alloc (.cells #[.int .i64 xc, .slice q xv.length qc] 50) = w0 at *
  generalize w.heap.size = sb at *
  have HW : Hid (∀ wy, Keep (fun _ => False) w0 wy → wy.cell? ⟨sb, 0, none⟩ = some (.int .i64 v) ∧ wy.cell? ⟨sb, 1, none⟩ = some (.slice p cs.length cap) ∧ wy.cell? ⟨sb + 1, 0, none⟩ = some (.int .i64 xc) ∧ wy.cell? ⟨sb + 1, 1, none⟩ = some (.slice q xv.length qc)) := hid (fun wy hk =>
    ⟨cell_of (hk.get HA.out id) (by rfl), cell_of (hk.get HA.out id) (by rfl), cell_of (hk.get HB.out id) (by rfl), cell_of (hk.get HB.out id) (by rfl)⟩)
  have HC : Hid (∀ wy, Keep (fun _ => False) w0 wy → CP wy wy.heap.size p cs ∧ XP wy wy.heap.size q xv) := hid (fun wy hk => ⟨CP.mono (CP.low HF0.out (Low.keep0 hk)) hk.size, XP.mono (XP.low HV0.out (Low.keep0 hk)) hk.size⟩)
  obtain ⟨s0, s1, s2, s3⟩ := HW.out _ (Keep.refl _ _)
  go_wp2_with fail
  refine (r_find xc v cs p cap _ HSM.out.1 HF0.out).mono ?_
  rintro r w1 ⟨rfl, hk1⟩
  have HK1 := hid hk1
  clear hk1 s0 s1 s2 s3
  rcases idx_cases (fun c : Cmp => decide (c.id = xc)) cs with hi | ⟨k, c, hi, hck, _, hkl⟩
  · have G : Hid (partC cs ⟨xc, xv⟩ = 6) := hid (by unfold partC; simp only; rw [find_of_idx.1 hi])
    rw [hi]
    clear hi
    go_wp2
    go_ret
    exact ⟨by rw [G.out]; rfl, HK0.out.trans HK1.out⟩
  · have G : Hid (partC cs ⟨xc, xv⟩ = fitC c.fs xv) := hid (by unfold partC; simp only; rw [find_of_idx.2 k c hi hck])
    rw [hi]
    have hl65 := HSM.out.1
    obtain ⟨b, off, fq, fk, rfl, hb, c0, c1, c2, _, hff⟩ := CP.at (HC.out _ HK1.out.drew).1 hck
    have hin : (0 : Int) ≤ (k : Int) ∧ (k : Int) < (cs.length : Int) := ⟨by omega, by omega⟩
    have g1 : decide ((k : Int) < 0) = false := decide_eq_false (by omega)
    have HFF := hid hff
    clear hi hck hff hb
    obtain ⟨ci, cn, fs⟩ := c
    simp only at c2 HFF G
    obtain ⟨s0, s1, s2, s3⟩ := HW.out _ HK1.out.drew
    go_wp2_with fail
    refine Plan.wp_region_pl [(false, 0, []), (false, 1, []), (false, 2, []), (false, 3, []), (false, 4, []), (false, 5, []), (false, 6, []), (false, 7, []), (true, 8, []), (false, 9, [])] (by kernel_rfl) (by kernel_rfl) ?_
    iterate 8 (refine Plan.pl_st rfl ?_; go_big_quiet_step (fail); refine wpQuiet_nil ?_)
    refine Plan.pl_ac rfl ?_
    go_wp2_with fail
    refine (r_fit fs fq fk xv q qc _ HX.out HFF.out (HC.out _ HK1.out.drew).2).mono ?_
    rintro r w2 ⟨rfl, hk2⟩
    have HK2 := hid (HK1.out.drew.trans hk2)
    clear hk2 s0 s1 s2 s3 c0 c1 c2 g1
    go_wp2
    refine Plan.plQ_mk Plan.chk_end ?_
    iterate 1 (refine Plan.pl_st rfl ?_; go_big_quiet_step (fail); refine wpQuiet_nil ?_)
    refine Plan.pl_end ?_
    go_wp2
    go_ret
    exact ⟨by rw [G.out]; rfl, HK0.out.trans HK2.out⟩

theorem partsC_cons (cs : List Cmp) (seen : List Int) (x : Prt) (r : List Prt) : partsC cs seen (x :: r) = if seen.any (fun c => decide (c = x.comp)) = true then 1 else if partC cs x = 0 then partsC cs (seen ++ [x.comp]) r else partC cs x := rfl

set_option maxRecDepth 20000 in
set_option maxHeartbeats 4000000 in
theorem r_parts (v : Int) (cs : List Cmp) (p : Option Addr) (cap : Nat) (l : List Prt) (q : Option Addr) (qc : Nat) (w : World) (hl : Small cs) (hll : l.length ≤ 65536) (hvl : ∀ x ∈ l, ∀ y ∈ x.vals, y.fit) (hf : CP w w.heap.size p cs) (hv : PP w w.heap.size q l) :
    Calls Try.prog 26 #[.agg #[.int .i64 v, .slice p cs.length cap], .slice q l.length qc] w fun r w' => r = .returned (iV (partsC cs [] l)) ∧ Keep (fun _ => False) w w' := by
  have hk0 := (Keep.refl (fun _ => False) w).alloc (.cells #[.int .i64 v, .slice p cs.length cap] 24)
  have HB0 := hid (heap_alloc_new w (.cells #[.int .i64 v, .slice p cs.length cap] 24))
  have HF0 := hid (CP.mono (CP.low hf (Low.keep0 hk0)) hk0.size)
  have HV0 := hid (PP.mono (PP.low hv (Low.keep0 hk0)) hk0.size)
  have HK0 := hid hk0; have HSM := hid hl; have HX := hid hvl
  clear hf hv hk0 hl hvl
  go_enter Try.func26, Try.ntmps26
  go_upto_region 1 with fail
  generalize w.alloc (.cells #[.int .i64 v, .slice p cs.length cap] 24) = w0 at *
  generalize w.heap.size = sb at *
  have HS : Hid (∀ wy, Keep (fun _ => False) w0 wy → wy.cell? ⟨sb, 0, none⟩ = some (.int .i64 v) ∧ wy.cell? ⟨sb, 1, none⟩ = some (.slice p cs.length cap)) := hid (fun wy hk => ⟨cell_of (hk.get HB0.out (fun h => h)) (by rfl), cell_of (hk.get HB0.out (fun h => h)) (by rfl)⟩)
  have HC : Hid (∀ wy, Keep (fun _ => False) w0 wy → CP wy wy.heap.size p cs ∧ PP wy wy.heap.size q l) := hid (fun wy hk => ⟨CP.mono (CP.low HF0.out (Low.keep0 hk)) hk.size, PP.mono (PP.low HV0.out (Low.keep0 hk)) hk.size⟩)
  go_wp2_with fail
  go_loopw [5, 6, 7] (fun i _ _ wr => ∃ k : Nat, k ≤ l.length ∧ i = iV k ∧ partsC cs [] l = partsC cs ((l.take k).map (·.comp)) (l.drop k) ∧ Keep (fun _ => False) w0 wr) (fun i _ _ _ => l.length + 1 - (intOf i).toNat)
  case atStart => exact ⟨0, Nat.zero_le _, rfl, rfl, Keep.refl _ _⟩
  case round =>
    obtain ⟨k, hk, rfl, heq, hkr⟩ := hrel
    have HEQ := hid heq; have HKR := hid hkr
    clear heq hkr
    by_cases hlt : k < l.length
    · obtain ⟨x, hxk⟩ : ∃ x, l[k]? = some x := ⟨l[k], by simp [hlt]⟩
      have HEX := hid (show partsC cs [] l = if ((l.take k).map (·.comp)).any (fun c => decide (c = x.comp)) = true then 1 else if partC cs x = 0 then partsC cs ((l.take (k + 1)).map (·.comp)) (l.drop (k + 1)) else partC cs x by
        rw [HEQ.out, drop_next hxk, partsC_cons, take_next hxk, List.map_append]; rfl)
      have HXK := hid hxk
      have HXM := hid (HX.out x (List.mem_of_getElem? hxk))
      obtain ⟨xc, xv⟩ := x
      simp only at HEX HXM
      clear hxk HEQ
      go_wp2_with fail
      go_loopw [6] (fun i wy => ∃ m : Nat, m ≤ k ∧ i = iV m ∧ (∀ d ∈ l.take m, d.comp ≠ xc) ∧ Keep (fun _ => False) w0 wy) (fun i _ => k + 1 - (intOf i).toNat)
      case atStart => exact ⟨0, Nat.zero_le _, rfl, by simp, HKR.out⟩
      case round =>
        clear HKR
        obtain ⟨m, hm, rfl, hall, hkm⟩ := hrel
        have HALL := hid hall; have HKM := hid hkm
        clear hall hkm
        by_cases hmk : m < k
        · have g1 : decide ((m : Int) < (k : Int)) = true := decide_eq_true (by omega)
          have g2 : decide (m < k) = true := decide_eq_true hmk
          obtain ⟨d, hd⟩ : ∃ d, l[m]? = some d := ⟨l[m], by simp [show m < l.length by omega]⟩
          have HDM : Hid (d ∈ l.take k) := hid (List.mem_of_getElem? (i := m) (by rw [List.getElem?_take_of_lt hmk]; exact hd))
          have HNX : Hid (d.comp ≠ xc → ∀ y ∈ l.take (m + 1), y.comp ≠ xc) := hid (fun hc y hy => by
            rw [take_next hd] at hy
            rcases List.mem_append.1 hy with h | h
            · exact HALL.out y h
            · rw [List.mem_singleton.1 h]; exact hc)
          obtain ⟨b, off, _, _, rfl, _, c0, _⟩ := PP.at (HC.out _ HKM.out.drew).2 hd
          obtain ⟨b', off', _, _, hp, _, d0, _⟩ := PP.at (HC.out _ HKM.out.drew).2 HXK.out
          injection hp with hp
          injection hp with q1 q2
          subst q1; subst q2
          simp only at d0
          have hin : (0 : Int) ≤ (m : Int) ∧ (m : Int) < (l.length : Int) := ⟨by omega, by omega⟩
          have hin2 : (0 : Int) ≤ (k : Int) ∧ (k : Int) < (l.length : Int) := ⟨by omega, by omega⟩
          clear hd
          obtain ⟨dc, dv⟩ := d
          simp only at c0 HNX
          by_cases he : dc = xc
          · have G : Hid (partsC cs [] l = 1) := hid (by
              rw [HEX.out, if_pos (List.any_eq_true.2 ⟨xc, List.mem_map.2 ⟨_, HDM.out, he⟩, decide_eq_true rfl⟩)])
            have g3 : (dc == xc) = true := beq_iff_eq.2 he
            have HWK := hid HKM.out.drew
            clear he
            go_wp2_with fail
            refine Plan.wp_region_pl [(false, 0, []), (false, 1, []), (false, 2, []), (false, 3, []), (false, 4, []), (false, 5, []), (false, 6, []), (false, 7, []), (false, 8, []), (false, 9, []), (false, 10, [])] (by kernel_rfl) (by kernel_rfl) ?_
            iterate 11 (refine Plan.pl_st rfl ?_; go_big_quiet_step (fail); refine wpQuiet_nil ?_)
            refine Plan.pl_end ?_
            go_wp2
            go_ret
            exact ⟨by rw [G.out]; rfl, HK0.out.trans HWK.out⟩
          · have G := hid (HNX.out he)
            have g3 : (dc == xc) = false := beq_eq_false_iff_ne.2 he
            clear he
            go_wp2_with fail
            refine Plan.wp_region_pl [(false, 0, []), (false, 1, []), (false, 2, []), (false, 3, []), (false, 4, []), (false, 5, []), (false, 6, []), (false, 7, []), (false, 8, []), (false, 9, []), (false, 10, [])] (by kernel_rfl) (by kernel_rfl) ?_
            iterate 11 (refine Plan.pl_st rfl ?_; go_big_quiet_step (fail); refine wpQuiet_nil ?_)
            refine Plan.pl_end ?_
            go_wp2
            go_roundw
            case rel => exact ⟨m + 1, by omega, by go_num, G.out, HKM.out.drew⟩
            case measure => simp [intOf]; omega
        · obtain rfl : m = k := by omega
          have g1 : decide ((m : Int) < (m : Int)) = false := decide_eq_false (by omega)
          have g2 : decide (m < m) = false := decide_eq_false (by omega)
          have HNN : Hid (((l.take m).map (·.comp)).any (fun c => decide (c = xc)) = false) := hid (by
            rw [List.any_eq_false]
            intro c hc
            obtain ⟨d, hd, rfl⟩ := List.mem_map.1 hc
            simpa using HALL.out d hd)
          obtain ⟨b, off, xq, xk, rfl, _, c0, c1, _, hxv⟩ := PP.at (HC.out _ HKM.out.drew).2 HXK.out
          simp only at c0 c1 hxv
          have HXV := hid hxv
          have hin2 : (0 : Int) ≤ (m : Int) ∧ (m : Int) < (l.length : Int) := ⟨by omega, by omega⟩
          obtain ⟨s0, s1⟩ := HS.out _ HKM.out.drew
          clear hxv
          go_wp2_with fail
          refine Plan.wp_region_pl [(false, 0, []), (false, 1, []), (false, 2, []), (false, 3, []), (false, 4, []), (true, 5, []), (false, 6, [])] (by kernel_rfl) (by kernel_rfl) ?_
          iterate 5 (refine Plan.pl_st rfl ?_; go_big_quiet_step (fail); refine wpQuiet_nil ?_)
          refine Plan.pl_ac rfl ?_
          go_wp2_with fail
          refine (r_part v cs p cap ⟨xc, xv⟩ xq xk _ HSM.out HXM.out (HC.out _ HKM.out.drew).1 HXV.out).mono ?_
          rintro r w2 ⟨rfl, hk2⟩
          have HK2 := hid (HKM.out.drew.trans hk2)
          clear hk2 s0 s1 c0 c1 g1 g2
          go_wp2
          refine Plan.plQ_mk Plan.chk_end ?_
          iterate 1 (refine Plan.pl_st rfl ?_; go_big_quiet_step (fail); refine wpQuiet_nil ?_)
          refine Plan.pl_end ?_
          by_cases hz : partC cs ⟨xc, xv⟩ = 0
          · have G := hid (show partsC cs [] l = partsC cs ((l.take (m + 1)).map (·.comp)) (l.drop (m + 1)) by rw [HEX.out, if_neg (by rw [HNN.out]; exact Bool.false_ne_true), if_pos hz])
            rw [hz]
            clear hz
            go_wp2
            go_roundw
            case rel => exact ⟨m + 1, by omega, by go_num, G.out, HK2.out⟩
            case measure => simp [intOf]; omega
          · have G := hid (show partsC cs [] l = partC cs ⟨xc, xv⟩ by rw [HEX.out, if_neg (by rw [HNN.out]; exact Bool.false_ne_true), if_neg hz])
            generalize partC cs ⟨xc, xv⟩ = e at *
            have g1 : ((e : Int) != 0) = true := by simp only [bne, beq_eq_false_iff_ne.2 (show (e : Int) ≠ 0 by omega)]; rfl
            have g2 : (e != 0) = true := by simp only [bne, beq_eq_false_iff_ne.2 hz]; rfl
            go_wp2
            go_ret
            exact ⟨by rw [G.out]; rfl, HK0.out.trans HK2.out⟩
    · obtain rfl : k = l.length := by omega
      have G : Hid (partsC cs [] l = 0) := hid (by rw [HEQ.out, List.drop_length]; rfl)
      have g1 : decide ((l.length : Int) < (l.length : Int)) = false := decide_eq_false (by omega)
      go_wp2
      go_ret
      exact ⟨by rw [G.out]; rfl, HK0.out.trans HKR.out⟩
end Go.Proofs.Ythpafpgillnimaa
