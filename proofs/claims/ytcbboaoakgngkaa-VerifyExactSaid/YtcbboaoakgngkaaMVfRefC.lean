/- What is proved: what the reference's Check of a schema and a system answers: what the program's verify.Check answers. -/
import Derived.Test.YtcbboaoakgngkaaMVfRef
import Derived.Test.YtcbboaoakgngkaaMRef05
import Derived.Test.YtcbboaoakgngkaaMVf8
import Derived.Test.YtcbboaoakgngkaaMRegion
import Derived.Test.YtcbboaoakgngkaaMHeap
namespace Go.Proofs.Ytcbboaoakgngkaa
open Go.RowKit Go.Proofs.Heap Go.Proofs.Sch

/-- A load whose answer is known. -/
theorem wpList_load_v {P : Program} {ops : Array Oper} {rest : List Oper} {o : Oper} {a : Act} {w : World} {Q : Exit → Act → World → Prop} (hgd : o.guard = none) (ty : TypeId) (x : Operand) (ho : o.op = .load ty x)
    (ad : Addr) (hx : a.eval x = .pointer (some ad)) (v : Value) (hl : (loadVar ty ad).run P w = .ok v w) (h : wpList P ops Q rest (a.put o.dst v) w) : wpList P ops Q (o :: rest) a w :=
  wpList_plain hgd fun _ hK => by
    unfold Oper.wp execOp
    simp only [ho, hx, Instr.loadAt, Instr.sureAddr, Sem.run_bind, Sem.run_pure, Result.andThen_ok, hl]
    exact hK _ _ h
theorem zero_op5 (w : World) : (zeroValue 81).run Try.prog w = .ok (.agg #[.int .i64 0, .int .i64 0, .int .i64 0, .int .i64 0, .int .i64 0]) w := by kernel_rfl
theorem firstE_ne {l : List Nat} {k e : Nat} (hk : l[k]? = some e) (he : e ≠ 0) (h : ∀ j, j < k → l[j]? = some 0) : firstE l = e ∧ firstE l ≠ 0 := by
  have := firstE_at hk he h
  exact ⟨this, by rw [this]; exact he⟩

set_option maxRecDepth 20000 in
set_option maxHeartbeats 32000000 in
theorem r_vcheck (v : Int) (cs : List Cmp) (p : Option Addr) (cap : Nat) (s : VSys) (pa : Option Addr) (ca : Nat) (pc : Option Addr) (cc : Nat) (w : World) (h1 : s.all < 4294967296) (h2 : s.none < 4294967296) (hl : Small cs) (hf : CP w w.heap.size p cs) (ha : TP w w.heap.size pa s.after) (hc : VP w w.heap.size pc s.code) :
    Calls Try.prog 15 #[.agg #[.int .i64 v, .slice p cs.length cap], SysV s pa ca pc cc] w fun r w' => r = .returned (iV (verC v cs s)) ∧ Keep (fun _ => False) w w' := by
  obtain ⟨w1, hw1, hb1, hb2, hs1, hk1⟩ := box2 w #[.int .i64 v, .slice p cs.length cap] (SysC s pa ca pc cc) 36 46
  have HB1 := hid hb1; have HB2 := hid hb2; have HK1 := hid hk1
  have HCP : Hid (∀ wy, Keep (fun _ => False) w1 wy → CP wy wy.heap.size p cs) := hid (fun wy hk => CP.mono (CP.low hf (Low.keep0 (hk1.trans hk))) (hk1.trans hk).size)
  have HTP : Hid (∀ wy, Keep (fun _ => False) w1 wy → TP wy wy.heap.size pa s.after) := hid (fun wy hk => TP.mono (TP.low ha (Low.keep0 (hk1.trans hk))) (hk1.trans hk).size)
  have HVP : Hid (∀ wy, Keep (fun _ => False) w1 wy → VP wy wy.heap.size pc s.code) := hid (fun wy hk => VP.mono (VP.low hc (Low.keep0 (hk1.trans hk))) (hk1.trans hk).size)
  have HSM := hid hl; have H1 := hid h1; have H2 := hid h2
  have HE : Hid (verC v cs s = if checkC v cs ≠ 0 then checkC v cs else if sysC s ≠ 0 then sysC s else if (withinB s.all (idsN cs) && withinB s.none (idsN cs)) = false then 6
    else if firstE (s.code.map (insC cs s.all)) ≠ 0 then firstE (s.code.map (insC cs s.all)) else depthsE s.code) := hid rfl
  generalize verC v cs s = R at *
  have HS : Hid (∀ wy, Keep (fun _ => False) w1 wy → wy.cell? ⟨w.heap.size, 0, none⟩ = some (.int .i64 v) ∧ wy.cell? ⟨w.heap.size, 1, none⟩ = some (.slice p cs.length cap)) := hid (fun wy hk => ⟨cell_of (hk.get HB1.out id) (by rfl), cell_of (hk.get HB1.out id) (by rfl)⟩)
  have HC : Hid (∀ wy, Keep (fun _ => False) w1 wy → wy.cell? ⟨w.heap.size + 1, 0, none⟩ = some (.string s.name) ∧ wy.cell? ⟨w.heap.size + 1, 1, none⟩ = some (.int .i64 s.stage) ∧ wy.cell? ⟨w.heap.size + 1, 2, none⟩ = some (.slice pa s.after.length ca) ∧ wy.cell? ⟨w.heap.size + 1, 3, none⟩ = some (.int .u32 (s.all : Int)) ∧ wy.cell? ⟨w.heap.size + 1, 4, none⟩ = some (.int .u32 (s.none : Int)) ∧ wy.cell? ⟨w.heap.size + 1, 5, none⟩ = some (.slice pc s.code.length cc)) := hid (fun wy hk =>
    ⟨cell_of (hk.get HB2.out id) (by rfl), cell_of (hk.get HB2.out id) (by rfl), cell_of (hk.get HB2.out id) (by rfl), cell_of (hk.get HB2.out id) (by rfl), cell_of (hk.get HB2.out id) (by rfl), cell_of (hk.get HB2.out id) (by rfl)⟩)
  obtain ⟨i0, hi0, hz0, hz1, hz2⟩ := info_parts' info_i64
  have HI := hid (And.intro hi0 (And.intro hz0 (And.intro hz1 hz2)))
  clear hi0 hz0 hz1 hz2
  clear hb1 hb2 hs1 hk1 hf ha hc hl h1 h2
  go_enter Try.func15, Try.ntmps15
  go_upto_region 1 with fail
  rw [← hw1]
  clear hw1
  generalize w.heap.size + 1 = tb at *
  generalize w.heap.size = sb at *
  obtain ⟨s0, s1⟩ := HS.out _ (Keep.refl _ _)
  go_wp2_with fail
  refine (r_check v cs p cap _ HSM.out (HCP.out _ (Keep.refl _ _))).mono ?_
  rintro r w2 ⟨rfl, hk2⟩
  have HK2 := hid hk2
  clear hk2 s0 s1
  generalize checkC v cs = z1 at *
  by_cases hz1 : z1 = 0
  rotate_left
  · have g1 : ((z1 : Int) != 0) = true := by rw [bne, beq_eq_false_iff_ne.2 (show (z1 : Int) ≠ 0 by omega)]; rfl
    have g2 : (z1 != 0) = true := by rw [bne, beq_eq_false_iff_ne.2 hz1]; rfl
    have G : Hid (R = z1) := hid (by rw [HE.out, if_pos hz1])
    go_wp2
    go_ret
    exact ⟨by rw [G.out]; rfl, HK1.out.trans HK2.out⟩
  subst hz1
  have HE1 : Hid (R = if sysC s ≠ 0 then sysC s else if (withinB s.all (idsN cs) && withinB s.none (idsN cs)) = false then 6
    else if firstE (s.code.map (insC cs s.all)) ≠ 0 then firstE (s.code.map (insC cs s.all)) else depthsE s.code) := hid (by rw [HE.out, if_neg (by simp)])
  clear HE
  obtain ⟨c0, c1, c2, c3, c4, c5⟩ := HC.out _ HK2.out
  go_wp2_with fail
  refine (r_check22 s pa ca pc cc _ H1.out H2.out (HTP.out _ HK2.out) (HVP.out _ HK2.out)).mono ?_
  rintro r w3 ⟨rfl, hk3⟩
  have HK3 := hid (HK2.out.trans hk3)
  clear hk3 c0 c1 c2 c3 c4 c5
  have HSZ := hid (fun h : sysC s = 0 => code_zero (sys_zero h))
  generalize sysC s = z2 at *
  by_cases hz2 : z2 = 0
  rotate_left
  · have g1 : ((z2 : Int) != 0) = true := by rw [bne, beq_eq_false_iff_ne.2 (show (z2 : Int) ≠ 0 by omega)]; rfl
    have g2 : (z2 != 0) = true := by rw [bne, beq_eq_false_iff_ne.2 hz2]; rfl
    have G : Hid (R = z2) := hid (by rw [HE1.out, if_pos hz2])
    go_wp2
    go_ret
    exact ⟨by rw [G.out]; rfl, HK1.out.trans HK3.out⟩
  subst hz2
  have HCZ := hid (HSZ.out rfl)
  have HE2 : Hid (R = if (withinB s.all (idsN cs) && withinB s.none (idsN cs)) = false then 6
    else if firstE (s.code.map (insC cs s.all)) ≠ 0 then firstE (s.code.map (insC cs s.all)) else depthsE s.code) := hid (by rw [HE1.out, if_neg (by simp)])
  clear HE1 HSZ
  go_upto_region 7 with fail
  have HKD := hid HK3.out.drew
  obtain ⟨c0, c1, c2, c3, c4, c5⟩ := HC.out _ HKD.out
  refine Plan.wp_region_pl [(false, 0, []), (false, 1, []), (false, 3, []), (false, 4, []), (true, 2, [4, 3]), (true, 5, []), (true, 6, []), (false, 7, [])] (by as_aux_lemma => kernel_rfl) (by as_aux_lemma => kernel_rfl) ?_
  iterate 4 (refine Plan.pl_st rfl ?_; go_big_quiet_step (fail); refine wpQuiet_nil ?_)
  refine Plan.pl_ac rfl ?_
  go_wp2_with fail
  refine (r_ids s.all H1.out _).mono ?_
  rintro r w4 ⟨a4, n4, rfl, hown4, hk4⟩
  have HO4 := hid hown4
  have HK4 := hid (HKD.out.trans hk4)
  have HLA := hid (idsT_len s.all 25)
  clear hown4 hk4 c0 c1 c2 c3 c4 c5
  obtain ⟨c0, c1, c2, c3, c4, c5⟩ := HC.out _ HK4.out
  go_wp2
  refine Plan.plQ_mk ?_ ?_
  · iterate 2 (refine Plan.chk_st rfl ?_ ?_; focus (go_big_quiet_step (fail); exact wpQuiet_nil rfl))
    exact Plan.chk_end
  refine Plan.pl_ac rfl ?_
  go_wp2_with fail
  refine (r_ids s.none H2.out _).mono ?_
  rintro r w5 ⟨a5, n5, rfl, hown5, hk5⟩
  have HO5 := hid hown5
  have HK5 := hid (HK4.out.trans hk5)
  have HO45 := hid (owns_keep (w' := w5) HO4.out (fun k hk => hk5.block k (HO4.out.lt k hk).2 id))
  have HLB := hid (idsT_len s.none 25)
  clear hown5 hk5 c0 c1 c2 c3 c4 c5
  go_wp2
  refine Plan.plQ_mk Plan.chk_end ?_
  refine Plan.pl_ac rfl ?_
  have HWA := hid (within_ids s.all cs)
  have HWB := hid (within_ids s.none cs)
  have HOA := hid (owns_mono HO45.out HKD.out.size)
  have HK5S := hid HK5.out.size
  clear HO4 HO45
  generalize idsT s.all 25 = la at *
  generalize idsT s.none 25 = lb at *
  obtain ⟨bl, hbl⟩ : ∃ bl, la ++ lb = bl := ⟨_, rfl⟩
  have HBL := hid hbl
  have HLX : Hid (bl.length = la.length + lb.length) := hid (by rw [← hbl, List.length_append])
  have HMX : Hid (bl.map (fun i => Value.int .i64 i) = la.map (fun i => Value.int .i64 i) ++ lb.map (fun i => Value.int .i64 i)) := hid (by rw [← hbl, List.map_append])
  have HONE : Hid (∀ u ∈ lb.map (fun i => Value.int .i64 i), u.oneCell' = true) := hid (fun u hu => by
    obtain ⟨i, _, rfl⟩ := List.mem_map.1 hu; rfl)
  clear hbl
  go_wp2_with (at_builtin; go_loud (refine wpList_append_rd rfl (.tmp 28) (.tmp 31) _ rfl w1.heap.size _ i0 _ 1 8 Try.underlying24 HI.out.1 HI.out.2.1 HI.out.2.2.1 HI.out.2.2.2 rfl (by decide) _ la.length _ (by rfl) HOA.out _ lb.length _ (by rfl) (rd_own HO5.out HONE.out) (by have := HLA.out; have := HLB.out; unfold maxLen; omega) (by have := HLA.out; have := HLB.out; omega) HK5S.out ?_); intro v' w6 hown6 hgrow6 hat6 hn6; obtain ⟨vr, ve, rfl⟩ := owns_val hown6; rw [← HMX.out, ← HLX.out] at hown6; rw [← HLX.out]; have HO6 := hid hown6; have HK6 := hid (HK5.out.grown hgrow6 (fun k hk => .inl (HOA.out.lt k hk).1)); clear hown6 hgrow6 hat6 hn6)
  refine Plan.plQ_mk Plan.chk_end ?_
  iterate 1 (refine Plan.pl_st rfl ?_; go_big_quiet_step (fail); refine wpQuiet_nil ?_)
  refine Plan.pl_end ?_
  have HBLE : Hid (bl.length ≤ 50) := hid (by have := HLX.out; have := HLA.out; have := HLB.out; omega)
  have HWI : Hid ((withinB s.all (idsN cs) && withinB s.none (idsN cs)) = bl.all (fun i => cs.any (fun c => decide (c.id = i)))) := hid (by rw [HWA.out, HWB.out, ← HBL.out, List.all_append])
  clear HOA HO5 HONE HMX HLX HLA HLB HWB
  have hbl := HBLE.out
  go_wp2_with fail
  go_loopw [8] (fun i wr => ∃ k : Nat, k ≤ bl.length ∧ i = iV k ∧ (∀ y ∈ bl.take k, cs.any (fun c => decide (c.id = y)) = true) ∧ Keep (fun _ => False) w6 wr) (fun i _ => bl.length + 1 - (intOf i).toNat)
  case atStart => exact ⟨0, by omega, rfl, by simp, Keep.refl _ _⟩
  case round =>
    obtain ⟨k, hk, rfl, hyes, hkr⟩ := hrel
    have HYES := hid hyes; have HKR := hid hkr
    clear hyes hkr
    by_cases hlt : k < bl.length
    · obtain ⟨y, hy⟩ : ∃ y, bl[k]? = some y := ⟨bl[k], by simp [hlt]⟩
      obtain ⟨gb, rfl⟩ := owns_some HO6.out (by omega)
      have hin : (0 : Int) ≤ (k : Int) ∧ (k : Int) < (bl.length : Int) := ⟨by omega, by omega⟩
      have HKD := hid HKR.out.drew
      have d0 : wr.drew.cell? ⟨gb, k, none⟩ = some (.int .i64 y) := by
        rw [owns_cell (owns_keep (w' := wr.drew) HO6.out (fun j hj => HKD.out.block j (HO6.out.lt j hj).2 id)) hlt, List.getElem?_map, hy]; rfl
      obtain ⟨s0, s1⟩ := HS.out _ (HK6.out.trans HKD.out)
      have HY := hid hy
      clear hy
      go_upto_region 11 with fail
      refine Plan.wp_region_pl [(false, 0, []), (false, 1, []), (false, 2, []), (false, 3, []), (false, 4, []), (true, 5, []), (false, 6, [])] (by as_aux_lemma => kernel_rfl) (by as_aux_lemma => kernel_rfl) ?_
      iterate 5 (refine Plan.pl_st rfl ?_; go_big_quiet_step (fail); refine wpQuiet_nil ?_)
      refine Plan.pl_ac rfl ?_
      have HFN := hid (r_find y v cs p cap wr.drew HSM.out.1 (HCP.out _ (HK6.out.trans HKD.out)))
      clear d0 s0 s1
      go_wp2_with fail
      refine HFN.out.mono ?_
      rintro r w7 ⟨rfl, hk7⟩
      have HK7 := hid (HKD.out.trans hk7)
      clear hk7 HFN
      go_wp2
      refine Plan.plQ_mk Plan.chk_end ?_
      rcases idx_cases (fun c : Cmp => decide (c.id = y)) cs with h1 | ⟨n, c, h1, _⟩
      · have G : Hid (R = 6) := hid (by
          rw [HE2.out, if_pos]
          rw [HWI.out, List.all_eq_false]
          exact ⟨y, List.mem_of_getElem? HY.out, by rw [idx_any_no _ _ h1]; simp⟩)
        rw [h1]
        clear h1
        iterate 1 (refine Plan.pl_st rfl ?_; go_big_quiet_step (fail); refine wpQuiet_nil ?_)
        refine Plan.pl_end ?_
        go_wp2
        go_ret
        exact ⟨by rw [G.out]; rfl, HK1.out.trans (HK6.out.trans HK7.out)⟩
      · have G : Hid (∀ x ∈ bl.take (k + 1), cs.any (fun c => decide (c.id = x)) = true) := hid (fun x hx => by
          rw [take_next HY.out] at hx
          rcases List.mem_append.1 hx with h | h
          · exact HYES.out x h
          · rw [List.mem_singleton.1 h]; exact idx_any _ _ ⟨n, h1⟩)
        rw [h1]
        have g1 : decide ((n : Int) < 0) = false := decide_eq_false (by omega)
        clear h1
        iterate 1 (refine Plan.pl_st rfl ?_; go_big_quiet_step (fail); refine wpQuiet_nil ?_)
        refine Plan.pl_end ?_
        go_wp2
        go_roundw
        case rel => exact ⟨k + 1, by omega, by go_num, G.out, HK7.out⟩
        case measure => simp [intOf]; omega
    · obtain rfl : k = bl.length := by omega
      have HALL : Hid ((withinB s.all (idsN cs) && withinB s.none (idsN cs)) = true) := hid (by
        rw [HWI.out, List.all_eq_true]
        intro x hx
        exact HYES.out x (by rwa [List.take_length]))
      have HWAT : Hid (withinB s.all (idsN cs) = true) := hid (by
        have := HALL.out
        rw [Bool.and_eq_true] at this
        exact this.1)
      have HE3 : Hid (R = if firstE (s.code.map (insC cs s.all)) ≠ 0 then firstE (s.code.map (insC cs s.all)) else depthsE s.code) := hid (by rw [HE2.out, if_neg (by rw [HALL.out]; simp)])
      have HK8 := hid (HK6.out.trans HKR.out)
      clear HE2 HWI HALL HYES HWA
      have g1 : decide ((bl.length : Int) < (bl.length : Int)) = false := decide_eq_false (by omega)
      have g2 : decide (bl.length < bl.length) = false := decide_eq_false (by omega)
      obtain ⟨c0, c1, c2, c3, c4, c5⟩ := HC.out _ HK8.out
      have hz := zero_bits 0
      have hsz := bA_size s.all 32
      go_wp2_with fail
      refine (r_bits s.all H1.out _).mono ?_
      rintro r w9 ⟨rfl, hk9⟩
      obtain ⟨wa, hst, hba, hka, hlta⟩ := bits_new s.all 0 w9
      have HKA := hid (HK8.out.trans (hk9.trans hka))
      have HBA := hid hba
      clear hk9 hba hka hlta c0 c1 c2 c3 c4 c5 g1 g2
      obtain ⟨c0, c1, c2, c3, c4, c5⟩ := HC.out _ HKA.out
      go_wp2_with fail
      clear hst hz hsz c0 c1 c2 c3 c4 c5
      generalize w9.heap.size = ub at *
      go_loopw [10, 11, 12, 13] (fun i _ _ _ wr => ∃ k : Nat, k ≤ s.code.length ∧ i = iV k ∧ (∀ j, j < k → (s.code.map (insC cs s.all))[j]? = some 0) ∧ Keep (fun _ => False) wa wr) (fun i _ _ _ _ => s.code.length + 1 - (intOf i).toNat)
      case atStart => exact ⟨0, by omega, rfl, fun j h => by omega, Keep.refl _ _⟩
      case round =>
        obtain ⟨k, hk, rfl, hzero, hkr⟩ := hrel
        have HZERO := hid hzero; have HKR := hid hkr
        clear hzero hkr
        have HKW := hid (HKA.out.trans HKR.out)
        have hcl64 := HCZ.out.1
        obtain ⟨c0, c1, c2, c3, c4, c5⟩ := HC.out _ HKW.out
        by_cases hlt : k < s.code.length
        rotate_left
        · obtain rfl : k = s.code.length := by omega
          have G : Hid (R = depthsE s.code) := hid (by
            rw [HE3.out, if_neg]
            simp only [ne_eq, Decidable.not_not]
            apply firstE_none
            intro e he
            obtain ⟨j, hj⟩ := List.getElem?_of_mem he
            have h1 := (List.getElem?_eq_some_iff.1 hj).1
            rw [List.length_map] at h1
            rw [HZERO.out j h1] at hj
            injection hj with hj
            exact hj.symm)
          have g1 : decide ((s.code.length : Int) < (s.code.length : Int)) = false := decide_eq_false (by omega)
          have g2 : decide (s.code.length < s.code.length) = false := decide_eq_false (by omega)
          go_wp2_with fail
          refine (r_depths s.code pc cc _ (HVP.out _ HKW.out)).mono ?_
          rintro r w10 ⟨a10, n10, rfl, _, hk10⟩
          have HK10 := hid (HKW.out.trans hk10)
          clear hk10 c0 c1 c2 c3 c4 c5 g1 g2
          go_wp2
          go_ret
          exact ⟨by rw [G.out]; rfl, HK1.out.trans HK10.out⟩
        · obtain ⟨x, hx⟩ : ∃ x, s.code[k]? = some x := ⟨s.code[k], by simp [hlt]⟩
          have HIK : Hid ((s.code.map (insC cs s.all))[k]? = some (insC cs s.all x)) := hid (by rw [List.getElem?_map, hx]; rfl)
          have hin : (0 : Int) ≤ (k : Int) ∧ (k : Int) < (s.code.length : Int) := ⟨by omega, by omega⟩
          obtain ⟨b, off, rfl, hb, x0, x1, x2, x3, x4⟩ := VP.at (HVP.out _ HKW.out) hx
          have hld := load_op x0 x1 x2 x3 x4
          have HGOOD := hid (HCZ.out.2 x (List.mem_of_getElem? hx))
          have hz5 := zero_op5
          clear hx hb x0 x1 x2 x3 x4
          obtain ⟨w5, hw5, hb5, hs5, hk5⟩ := box1 wr (OC x) 81
          have HK5 := hid (HKR.out.trans hk5)
          have HKX := hid (HKW.out.trans hk5)
          have HXC : Hid (∀ wy, Keep (fun _ => False) w5 wy → wy.cell? ⟨wr.heap.size, 0, none⟩ = some (.int .i64 x.code) ∧ wy.cell? ⟨wr.heap.size, 1, none⟩ = some (.int .i64 x.a) ∧ wy.cell? ⟨wr.heap.size, 2, none⟩ = some (.int .i64 x.b) ∧ wy.cell? ⟨wr.heap.size, 3, none⟩ = some (.int .i64 x.c) ∧ wy.cell? ⟨wr.heap.size, 4, none⟩ = some (.int .i64 x.k)) := hid (fun wy hk =>
            ⟨cell_of (hk.get hb5 id) (by rfl), cell_of (hk.get hb5 id) (by rfl), cell_of (hk.get hb5 id) (by rfl), cell_of (hk.get hb5 id) (by rfl), cell_of (hk.get hb5 id) (by rfl)⟩)
          clear hb5 hs5 hk5
          go_upto_region 18 with (refine wpList_load_v rfl 81 _ rfl _ rfl _ hld ?_)
          rw [← hw5]
          clear hw5 hld hz5 c0 c1 c2 c3 c4 c5
          generalize wr.heap.size = xb at *
          obtain ⟨y0, y1, y2, y3, y4⟩ := HXC.out _ (Keep.refl _ _)
          obtain ⟨s0, s1⟩ := HS.out _ HKX.out
          have HFN := hid (r_find x.a v cs p cap w5 HSM.out.1 (HCP.out _ HKX.out))
          go_wp2_with fail
          refine HFN.out.mono ?_
          rintro r w6' ⟨rfl, hk6⟩
          have HK6x := hid hk6
          have HK7 := hid (HK5.out.trans hk6)
          clear hk6 HFN y0 y1 y2 y3 y4 s0 s1
          obtain ⟨y0, y1, y2, y3, y4⟩ := HXC.out _ HK6x.out
          have HNZ : Hid (insC cs s.all x ≠ 0 → R = insC cs s.all x) := hid (fun h => by
            obtain ⟨h1, h2⟩ := firstE_ne HIK.out h HZERO.out
            rw [HE3.out, if_pos h2, h1])
          have HZN : Hid (insC cs s.all x = 0 → ∀ j, j < k + 1 → (s.code.map (insC cs s.all))[j]? = some 0) := hid (fun h j hj => by
            by_cases hjk : j < k
            · exact HZERO.out j hjk
            · obtain rfl : j = k := by omega
              rw [HIK.out, h])
          have HX7 := hid (HKX.out.trans HK6x.out)
          by_cases hA : 20 ≤ x.code ∧ x.code ≤ 22
          · have HM := hid (ins_made (cs := cs) (all := s.all) hA)
            have g1 : decide (20 ≤ x.code) = true := decide_eq_true hA.1
            have g2 : decide (x.code ≤ 22) = true := decide_eq_true hA.2
            have g3 : (x.code != 2) = true := by rw [bne, beq_eq_false_iff_ne.2 (by omega)]; rfl
            have g4 : (x.code != 3) = true := by rw [bne, beq_eq_false_iff_ne.2 (by omega)]; rfl
            rcases idx_cases (fun c : Cmp => decide (c.id = x.a)) cs with h1 | ⟨n, c, h1, _⟩
            · have h6 : insC cs s.all x = 6 := by rw [HM.out, h1]; rfl
              have G : Hid (R = 6) := hid (by rw [HNZ.out (by rw [h6]; omega), h6])
              rw [h1]
              clear h1 h6 hA
              go_wp2
              go_ret
              exact ⟨by rw [G.out]; rfl, HK1.out.trans HX7.out⟩
            · have h6 : insC cs s.all x = 0 := by rw [HM.out, h1, if_neg (by omega)]
              have G := hid (HZN.out h6)
              have g5 : decide ((n : Int) < 0) = false := decide_eq_false (by omega)
              rw [h1]
              clear h1 h6 hA
              go_wp2
              go_roundw
              case rel => exact ⟨k + 1, by omega, by go_num, G.out, HK7.out⟩
              case measure => simp [intOf]; omega
          obtain ⟨ix, hix⟩ : ∃ ix, idxI (fun c : Cmp => decide (c.id = x.a)) cs = ix := ⟨_, rfl⟩
          have HIX := hid (fun (n : Nat) => (show idxI (fun c : Cmp => decide (c.id = x.a)) cs = (n : Int) ↔ ix = (n : Int) by rw [hix]))
          rw [hix]
          clear hix
          by_cases hB : x.code ≠ 2 ∧ x.code ≠ 3
          · have G := hid (HZN.out (ins_other hA hB.1 hB.2))
            have g3 : (x.code != 2) = true := by rw [bne, beq_eq_false_iff_ne.2 hB.1]; rfl
            have g4 : (x.code != 3) = true := by rw [bne, beq_eq_false_iff_ne.2 hB.2]; rfl
            by_cases h20 : 20 ≤ x.code
            · have g1 : decide (20 ≤ x.code) = true := decide_eq_true h20
              have g2 : decide (x.code ≤ 22) = false := decide_eq_false (by omega)
              clear h20 hA hB
              go_wp2
              go_roundw
              case rel => exact ⟨k + 1, by omega, by go_num, G.out, HK7.out⟩
              case measure => simp [intOf]; omega
            · have g1 : decide (20 ≤ x.code) = false := decide_eq_false h20
              clear h20 hA hB
              go_wp2
              go_roundw
              case rel => exact ⟨k + 1, by omega, by go_num, G.out, HK7.out⟩
              case measure => simp [intOf]; omega
          have h23 : x.code = 2 ∨ x.code = 3 := by omega
          have H23 := hid h23
          obtain ⟨hid_, hb0, hb7, hc0, hc7⟩ := good_place HGOOD.out h23
          have HID := hid hid_
          have g1 : decide (20 ≤ x.code) = false := decide_eq_false (by omega)
          clear hA hB hid_
          go_upto_region 21 with fail
          clear g1
          go_cut [84] from 49 to 118 (fun u wx => u = .bool false ∧ w6' = wx)
          case first =>
            rcases h23 with h | h
            · have g3 : (x.code != 2) = false := by rw [h]; rfl
              clear h
              go_wp2
              go_meet
              case rel => exact ⟨rfl, rfl⟩
            · have g3 : (x.code != 2) = true := by rw [h]; rfl
              have g4 : (x.code != 3) = false := by rw [h]; rfl
              clear h
              go_wp2
              go_meet
              case rel => exact ⟨rfl, rfl⟩
          case rest =>
          obtain ⟨rfl, rfl⟩ := hcut
          clear h23
          obtain ⟨hi1, hi24⟩ := of_decide_eq_true HID.out
          obtain ⟨an, han⟩ := Int.eq_ofNat_of_zero_le (show (0 : Int) ≤ x.a by omega)
          have hina : (0 : Int) ≤ (an : Int) ∧ (an : Int) < 32 := ⟨by omega, by omega⟩
          have HNO := hid (ins_no (cs := cs) (all := s.all) H23.out)
          have HEL := hid (fun (k' : Nat) (c : Cmp) ha (h : ix = (k' : Int)) => ins_elem (cs := cs) (all := s.all) (k := k') (c := c) H23.out HID.out ha ((HIX.out k').2 h))
          have HWF : Hid (s.all.testBit x.a.toNat = true → ∃ (k' : Nat) (c : Cmp), ix = (k' : Int) ∧ cs[k']? = some c) := hid (fun ha => by
            obtain ⟨k', c, h1, h2⟩ := within_found HWAT.out HID.out ha
            exact ⟨k', c, (HIX.out k').1 h1, h2⟩)
          have e0 := (HBA.out.keep HK7.out id).bit (show an < 32 by omega)
          rw [han, Int.toNat_natCast] at HNO HEL HWF
          rw [han] at y1
          clear han hi1 hi24
          obtain ⟨s0, s1⟩ := HS.out _ HX7.out
          cases hbit : s.all.testBit an
          · have h6 := HNO.out hbit
            have G : Hid (R = 6) := hid (by rw [HNZ.out (by rw [h6]; omega), h6])
            rw [hbit] at e0
            clear hbit h6
            go_wp2
            go_ret
            exact ⟨by rw [G.out]; rfl, HK1.out.trans HX7.out⟩
          obtain ⟨kk, c, hkk, hck⟩ := HWF.out hbit
          have HIC := hid (HEL.out kk c hbit hkk hck)
          rw [hkk]
          rw [hbit] at e0
          have hkl : kk < cs.length := (List.getElem?_eq_some_iff.1 hck).1
          have hink : (0 : Int) ≤ (kk : Int) ∧ (kk : Int) < (cs.length : Int) := ⟨by omega, by omega⟩
          obtain ⟨b', off', fq, fk, rfl, hb', _, _, d2, hfk, hff⟩ := CP.at (HCP.out _ HX7.out) hck
          have HFF := hid hff
          have HSMF := hid (HSM.out.2 c (List.mem_of_getElem? hck))
          obtain ⟨bn, hbn⟩ := Int.eq_ofNat_of_zero_le hb0
          have HEC : Hid (elC c.fs x = match c.fs[bn]? with | none => 3 | some f => if f.count ≤ x.c then 3 else if f.kind = 10 then 8 else 0) := hid (by unfold elC; rw [hbn, Int.toNat_natCast]; cases c.fs[bn]? <;> rfl)
          clear hkk hck hbit hb' hff hfk HNO HEL HWF
          go_upto_region 25 with fail
          clear y0 y1 y2 y3 y4 e0 s0 s1 d2
          obtain ⟨y0, y1, y2, y3, y4⟩ := HXC.out _ HK6x.out.drew
          rw [hbn] at y2 hb7
          clear hbn hb0
          have HX8 := hid HX7.out.drew
          have HK8' := hid HK7.out.drew
          refine Plan.wp_region_pl [(false, 0, []), (false, 1, []), (false, 2, []), (false, 3, []), (false, 4, []), (false, 5, []), (false, 6, []), (false, 7, []), (false, 8, []), (false, 9, []), (false, 10, []), (false, 11, []), (false, 12, []), (false, 13, []), (false, 14, []), (false, 15, [])] (by as_aux_lemma => kernel_rfl) (by as_aux_lemma => kernel_rfl) ?_
          by_cases hbl' : c.fs.length ≤ bn
          · have g1 : decide ((c.fs.length : Int) ≤ (bn : Int)) = true := decide_eq_true (by omega)
            have g2 : decide (c.fs.length ≤ bn) = true := decide_eq_true hbl'
            have h3 : insC cs s.all x = 3 := by rw [HIC.out, HEC.out, List.getElem?_eq_none hbl']
            have G : Hid (R = 3) := hid (by rw [HNZ.out (by rw [h3]; omega), h3])
            clear h3 hbl'
            iterate 16 (refine Plan.pl_st rfl ?_; go_big_quiet_step (fail); refine wpQuiet_nil ?_)
            refine Plan.pl_end ?_
            go_wp2
            go_ret
            exact ⟨by rw [G.out]; rfl, HK1.out.trans HX8.out⟩
          have g1 : decide ((c.fs.length : Int) ≤ (bn : Int)) = false := decide_eq_false (by omega)
          have g2 : decide (c.fs.length ≤ bn) = false := decide_eq_false hbl'
          have hinb : (0 : Int) ≤ (bn : Int) ∧ (bn : Int) < (c.fs.length : Int) := ⟨by omega, by omega⟩
          obtain ⟨f, hfb⟩ : ∃ f, c.fs[bn]? = some f := ⟨c.fs[bn], by simp [show bn < c.fs.length by omega]⟩
          obtain ⟨gb', go', rfl, hgb, f0, f1, f2⟩ := FP.at (FP.low HFF.out (Low.keep0 (Keep.refl (fun _ => False) w6').drew)) hfb
          have HIF : Hid (insC cs s.all x = if f.count ≤ x.c then 3 else if f.kind = 10 then 8 else 0) := hid (by rw [HIC.out, HEC.out, hfb])
          clear hfb hgb hbl'
          by_cases hcnt : f.count ≤ x.c
          · have g3 : decide (f.count ≤ x.c) = true := decide_eq_true hcnt
            have h3 : insC cs s.all x = 3 := by rw [HIF.out, if_pos hcnt]
            have G : Hid (R = 3) := hid (by rw [HNZ.out (by rw [h3]; omega), h3])
            clear h3 hcnt
            iterate 16 (refine Plan.pl_st rfl ?_; go_big_quiet_step (fail); refine wpQuiet_nil ?_)
            refine Plan.pl_end ?_
            go_wp2
            go_ret
            exact ⟨by rw [G.out]; rfl, HK1.out.trans HX8.out⟩
          have g3 : decide (f.count ≤ x.c) = false := decide_eq_false hcnt
          iterate 16 (refine Plan.pl_st rfl ?_; go_big_quiet_step (fail); refine wpQuiet_nil ?_)
          refine Plan.pl_end ?_
          by_cases h10 : f.kind = 10
          · have g4 : (f.kind == 10) = true := beq_iff_eq.2 h10
            have h3 : insC cs s.all x = 8 := by rw [HIF.out, if_neg hcnt, if_pos h10]
            have G : Hid (R = 8) := hid (by rw [HNZ.out (by rw [h3]; omega), h3])
            clear h3 hcnt h10
            go_wp2
            go_ret
            exact ⟨by rw [G.out]; rfl, HK1.out.trans HX8.out⟩
          · have g4 : (f.kind == 10) = false := beq_eq_false_iff_ne.2 h10
            have h3 : insC cs s.all x = 0 := by rw [HIF.out, if_neg hcnt, if_neg h10]
            have G := hid (HZN.out h3)
            clear h3 hcnt h10
            go_wp2
            go_roundw
            case rel => exact ⟨k + 1, by omega, by go_num, G.out, HK8'.out⟩
            case measure => simp [intOf]; omega
end Go.Proofs.Ytcbboaoakgngkaa

namespace Go.Proofs.Ytcbboaoakgngkaa
open Go.RowKit Go.Proofs.Heap Go.Proofs.Sch

/-- An instruction's cells. -/
def ocl (x : VOp) : List Value := [.int .i64 x.code, .int .i64 x.a, .int .i64 x.b, .int .i64 x.c, .int .i64 x.k]
theorem ocl_len (l : List VOp) : (l.flatMap ocl).length = l.length * 5 := by
  induction l with
  | nil => rfl
  | cons a l ih => rw [List.flatMap_cons, List.length_append, ih, List.length_cons]; simp [ocl]; omega
theorem info_op : (Try.prog.info? 81).map (fun i => (i.zero, i.size, i.bytes)) = some (some (.agg #[.int .i64 0, .int .i64 0, .int .i64 0, .int .i64 0, .int .i64 0]), 5, 40) := by kernel_rfl

set_option maxRecDepth 20000 in
set_option maxHeartbeats 8000000 in
theorem l_ops (code : List VOp) (p : Option Addr) (c : Nat) (w : World) (hl : code.length ≤ 1000) (hv : VP w w.heap.size p code) :
    Calls Try.prog 12 #[.slice p code.length c] w fun r w' => ∃ a c', r = .returned (.slice a code.length c') ∧ w'.ownsRow w.heap.size 81 5 (.slice a code.length c') code.length (code.flatMap ocl) ∧ Keep (fun _ => False) w w' := by
  have HV : Hid (∀ wy, Keep (fun _ => False) w wy → VP wy w.heap.size p code) := hid (fun wy hk => VP.low hv (Low.keep0 hk))
  have HL := hid hl
  clear hv
  obtain ⟨i0, hi0, hz0, hz1, hz2⟩ := info_parts' info_op
  have HI := hid (And.intro hi0 (And.intro hz0 (And.intro hz1 hz2)))
  clear hi0 hz0 hz1 hz2
  obtain ⟨w1, hw1, hb1, hs1, hk1⟩ := box1 w #[] 81
  have hm0 : w1.ownsRow w.heap.size 81 5 (.slice (some ⟨w.heap.size, 0, none⟩) 0 0) 0 [] := by
    rw [hw1]; exact World.ownsRow_made w #[] 0 (Nat.le_refl _) (by unfold maxLen; omega) (by simp)
  have HM0 := hid hm0; have HK1 := hid hk1
  clear hm0 hk1 hb1 hs1
  go_enter Try.func12, Try.ntmps12
  go_upto_region 2 with fail
  rw [← hw1]
  clear hw1
  go_wp2_with fail
  go_loopw [3, 4, 5] (fun o i _ wr => ∃ (k : Nat) (a : Option Addr) (c' : Nat), k ≤ code.length ∧ i = iV k ∧ o = .slice a k c' ∧ wr.ownsRow w.heap.size 81 5 (.slice a k c') k ((code.take k).flatMap ocl) ∧ Keep (fun _ => False) w wr) (fun _ i _ _ => code.length + 1 - (intOf i).toNat)
  case atStart => exact ⟨0, _, _, by omega, rfl, rfl, HM0.out, HK1.out⟩
  case round =>
    obtain ⟨k, a, c', hk, rfl, rfl, hown, hkr⟩ := hrel
    have HO := hid hown; have HKR := hid hkr
    clear hown hkr HM0
    by_cases hlt : k < code.length
    · obtain ⟨x, hx⟩ : ∃ x, code[k]? = some x := ⟨code[k], by simp [hlt]⟩
      obtain ⟨b, off, rfl, hb, x0, x1, x2, x3, x4⟩ := VP.at (HV.out _ HKR.out) hx
      have hin : (0 : Int) ≤ (k : Int) ∧ (k : Int) < (code.length : Int) := ⟨by omega, by omega⟩
      have HNX : Hid ((code.take (k + 1)).flatMap ocl = (code.take k).flatMap ocl ++ ocl x) := hid (by rw [take_next hx, List.flatMap_append]; simp)
      generalize (code.take k).flatMap ocl = cl at *
      obtain ⟨w5, hw5, hb5, hs5, hk5⟩ := box1 wr (OC x) 54
      have HK5 := hid (HKR.out.trans hk5)
      have HB5 := hid hb5
      have HO5 := hid (owns_keep (w' := w5) HO.out (fun j hj => hk5.block j (HO.out.lt j hj).2 id))
      clear hx hb hb5 hs5 hk5
      go_upto_region 6 with fail
      rw [← hw5]
      clear hw5 x0 x1 x2 x3 x4
      generalize wr.heap.size = xb at *
      have y0 : w5.cell? ⟨xb, 0, none⟩ = some (.int .i64 x.code) := cell_of HB5.out (by rfl)
      have y1 : w5.cell? ⟨xb, 1, none⟩ = some (.int .i64 x.a) := cell_of HB5.out (by rfl)
      have y2 : w5.cell? ⟨xb, 2, none⟩ = some (.int .i64 x.b) := cell_of HB5.out (by rfl)
      have y3 : w5.cell? ⟨xb, 3, none⟩ = some (.int .i64 x.c) := cell_of HB5.out (by rfl)
      have y4 : w5.cell? ⟨xb, 4, none⟩ = some (.int .i64 x.k) := cell_of HB5.out (by rfl)
      go_wp2_with (at_builtin; go_loud (refine wpList_append_rd rfl _ _ _ rfl w.heap.size _ i0 _ 5 40 Try.underlying30 HI.out.1 HI.out.2.1 HI.out.2.2.1 HI.out.2.2.2 rfl (by decide) _ k cl (by rfl) (HO5.out.alloc _) _ 1 (ocl x) (by rfl) (rd_block (heap_alloc_new w5 _) (by simp [ocl]) (by simp [ocl, Value.oneCell'])) (by have := HL.out; unfold maxLen; omega) (by have := HL.out; omega) (by have := HK5.out.size; simp; omega) ?_; intro v' w6 hown6 hgrow6 hat6 hn6; obtain ⟨vr, ve, rfl⟩ := owns_val hown6; rw [← HNX.out] at hown6; have HO6 := hid hown6; have HK6 := hid ((HK5.out.alloc _).grown hgrow6 (fun k hk => .inl (HO5.out.lt k hk).1)); clear hown6 hgrow6 hat6 hn6 y0 y1 y2 y3 y4))
      go_roundw
      case rel => exact ⟨k + 1, _, _, by omega, by go_num, rfl, HO6.out, HK6.out⟩
      case measure => simp [intOf]; omega
    · obtain rfl : k = code.length := by omega
      have hcl : (code.take code.length).flatMap ocl = code.flatMap ocl := by rw [List.take_length]
      have HO1 := hid (hcl ▸ HO.out)
      clear hcl HO
      have g1 : decide ((code.length : Int) < (code.length : Int)) = false := decide_eq_false (by omega)
      have g2 : decide (code.length < code.length) = false := decide_eq_false (by omega)
      go_wp2
      go_ret
      exact ⟨a, c', rfl, HO1.out, HKR.out⟩
end Go.Proofs.Ytcbboaoakgngkaa

namespace Go.Proofs.Ytcbboaoakgngkaa
open Go.RowKit Go.Proofs.Heap Go.Proofs.Sch

theorem flat_get {α β : Type} {f : α → List β} {z : Nat} (hf : ∀ x, (f x).length = z) : ∀ {l : List α} {i r : Nat} {x : α}, l[i]? = some x → r < z → (l.flatMap f)[i * z + r]? = (f x)[r]?
  | [], i, r, x, h, _ => by simp at h
  | a :: l, 0, r, x, h, hr => by
    simp at h
    subst h
    rw [List.flatMap_cons, Nat.zero_mul, Nat.zero_add, List.getElem?_append_left (by rw [hf]; exact hr)]
  | a :: l, i + 1, r, x, h, hr => by
    rw [List.flatMap_cons, List.getElem?_append_right (by rw [hf]; rw [Nat.succ_mul]; omega), hf, show (i + 1) * z + r - z = i * z + r by rw [Nat.succ_mul]; omega]
    exact flat_get hf (by simpa using h) hr
theorem owns_flat {α : Type} {f : α → List Value} {z : Nat} (hf : ∀ x, (f x).length = z) {w : World} {base n c g i r : Nat} {e : TypeId} {l : List α} {x : α} {u : Value} (h : w.ownsRow base e z (.slice (some ⟨g, 0, none⟩) n c) n (l.flatMap f)) (hx : l[i]? = some x) (hr : r < z) (hu : (f x)[r]? = some u) : w.cell? ⟨g, i * z + r, none⟩ = some u := by
  have h1 := flat_get hf hx hr
  rw [hu] at h1
  have h2 := h.cells (g := g) rfl (i * z + r) u h1
  have hadd : (⟨g, 0, none⟩ : Addr).add (i * z + r) = ⟨g, i * z + r, none⟩ := by unfold Addr.add; split <;> simp_all
  rwa [hadd] at h2
theorem vp_own {w : World} {base n c : Nat} {e : TypeId} {p : Option Addr} {l : List VOp} (hn : l.length = n) (h : w.ownsRow base e 5 (.slice p n c) n (l.flatMap ocl)) : VP w w.heap.size p l := by
  rcases Nat.eq_zero_or_pos n with h0 | h0
  · exact .inl (List.eq_nil_of_length_eq_zero (by omega))
  · obtain ⟨q, rfl⟩ := owns_some h h0
    refine .inr ⟨q, 0, rfl, (h.lt q (by simp [Value.ownBlock])).2, fun i x hx => ?_⟩
    have hf : ∀ x, (ocl x).length = 5 := fun _ => rfl
    rw [Nat.zero_add]
    exact ⟨owns_flat hf h hx (r := 0) (by omega) rfl, owns_flat hf h hx (r := 1) (by omega) rfl, owns_flat hf h hx (r := 2) (by omega) rfl, owns_flat hf h hx (r := 3) (by omega) rfl, owns_flat hf h hx (r := 4) (by omega) rfl⟩
theorem depthsL_seen {code : List VOp} {k : Nat} {v : Int} (h : (depthsL code)[k]? = some v) : v = -1 ∨ (0 ≤ v ∧ v ≤ 16) := by
  by_cases he : depthsE code = 0
  · obtain ⟨_, hk, _⟩ := depths_zero he
    rcases hk.seen k v h with h1 | ⟨d, rfl, h2, _⟩
    · exact .inl h1
    · exact .inr ⟨by omega, by omega⟩
  · rw [depths_err he] at h; simp at h

set_option maxRecDepth 20000 in
set_option maxHeartbeats 8000000 in
theorem depths_walk (q : Option Addr) (c : Nat) (code : List VOp) (w : World) (hv : VP w w.heap.size q code) :
    Calls Try.prog 3 #[.slice q code.length c] w fun r w' => r = .returned (.bool true) ∧ Below w.heap.size w w' := by
  have HV : Hid (∀ wy, Keep (fun _ => False) w wy → VP wy wy.heap.size q code) := hid (fun wy hk => VP.mono (VP.low hv (Low.keep0 hk)) hk.size)
  clear hv
  go_enter Try.func3, Try.ntmps3
  go_wp2_with fail
  refine (awake_true _).mono ?_
  rintro r w1 ⟨rfl, hk1⟩
  have HK1 := hid hk1
  clear hk1
  by_cases h80 : 80 < code.length
  · have g0 : (80 : Int) < (code.length : Int) := by omega
    go_wp2
    go_ret
    exact ⟨rfl, HK1.out.below⟩
  have g0 : ¬ (80 : Int) < (code.length : Int) := by omega
  have HN : Hid (code.length ≤ 1000) := hid (by omega)
  go_wp2_with fail
  refine (verify_depths code q c _ (HV.out _ HK1.out)).mono ?_
  rintro r w2 ⟨da, dc, rfl, hown, hk2⟩
  have HO := hid hown; have HK2 := hid (HK1.out.trans hk2)
  clear hown hk2 g0
  go_wp2_with fail
  refine (l_ops code q c _ HN.out (HV.out _ HK2.out)).mono ?_
  rintro r w3 ⟨oa, oc, rfl, hown3, hk3⟩
  have HV3 := hid (vp_own rfl hown3)
  have HK3 := hid (HK2.out.trans hk3)
  have HO3 := hid (owns_keep (w' := w3) HO.out (fun k hk => hk3.block k (HO.out.lt k hk).2 id))
  clear hown3 hk3 HO
  go_wp2_with fail
  refine (r_depths code oa oc _ HV3.out).mono ?_
  rintro r w4 ⟨ra, rc, rfl, hown4, hk4⟩
  have HK4 := hid (HK3.out.trans hk4)
  have HD := hid (owns_keep (w' := w4) HO3.out (fun k hk => hk4.block k (HO3.out.lt k hk).2 id))
  have HR := hid hown4
  have HRE := hid (fun wy (hk : Keep (fun _ => False) w wy) => verify_reached code q c wy (HV.out wy hk))
  have HRN : Hid (reachedN code = seenN (depthsL code)) := hid rfl
  have HLE := hid (depthsL_len code)
  have HSE := hid (fun k v => depthsL_seen (code := code) (k := k) (v := v))
  clear hown4 hk4 HO3 HV3 HN
  generalize reachedN code = R at *
  generalize depthsL code = D at *
  generalize depthsE code = e at *
  have g1 : ((e : Int) != (e : Int)) = false := by simp
  have g2 : (e != e) = false := by simp
  have g3 : ((D.length : Int) != (D.length : Int)) = false := by simp
  have g4 : (D.length != D.length) = false := by simp
  have hl65 := HLE.out
  go_wp2_with fail
  clear g1 g2 g3 g4
  go_loopw [7, 8] (fun n i wr => ∃ k : Nat, k ≤ D.length ∧ i = iV k ∧ n = .int .i64 (seenN (D.take k) : Int) ∧ Keep (fun _ => False) w4 wr) (fun _ i _ => D.length + 1 - (intOf i).toNat)
  case atStart => exact ⟨0, by omega, rfl, rfl, Keep.refl _ _⟩
  case round =>
    obtain ⟨k, hk, rfl, rfl, hkr⟩ := hrel
    have HKR := hid hkr
    clear hkr
    by_cases hlt : k < D.length
    · obtain ⟨v, hi⟩ : ∃ v, D[k]? = some v := ⟨D[k], by simp [hlt]⟩
      obtain ⟨ga, rfl⟩ := owns_some HD.out (by omega)
      obtain ⟨gb, rfl⟩ := owns_some HR.out (by omega)
      have HCA : Hid (∀ wy, Keep (fun _ => False) w4 wy → wy.cell? ⟨ga, k, none⟩ = some (.int .i64 v) ∧ wy.cell? ⟨gb, k, none⟩ = some (.int .i64 v)) := hid (fun wy hk => by
        constructor
        · rw [owns_cell (owns_keep (w' := wy) HD.out (fun j hj => hk.block j (HD.out.lt j hj).2 id)) hlt, List.getElem?_map, hi]; rfl
        · rw [owns_cell (owns_keep (w' := wy) HR.out (fun j hj => hk.block j (HR.out.lt j hj).2 id)) hlt, List.getElem?_map, hi]; rfl)
      have hin : (0 : Int) ≤ (k : Int) ∧ (k : Int) < (D.length : Int) := ⟨by omega, by omega⟩
      have HX := hid (seenN_next hi)
      have HSL : Hid (seenN (D.take k) ≤ k) := hid (Nat.le_trans (seenN_le _) (by rw [List.length_take]; omega))
      have HSV := hid (HSE.out k v hi)
      generalize seenN (D.take k) = n at *
      have hn := HSL.out
      clear hi
      have g1 : (v != v) = false := by simp
      obtain ⟨c0, c1⟩ := HCA.out _ HKR.out.drew
      go_upto_region 13 with fail
      refine Plan.wp_region_pl [(false, 0, []), (false, 1, []), (false, 2, []), (false, 3, []), (false, 4, []), (false, 5, []), (false, 6, []), (false, 7, []), (false, 8, [])] (by as_aux_lemma => kernel_rfl) (by as_aux_lemma => kernel_rfl) ?_
      iterate 9 (refine Plan.pl_st rfl ?_; go_big_quiet_step (fail); refine wpQuiet_nil ?_)
      refine Plan.pl_end ?_
      have HKX := hid HKR.out.drew
      by_cases hv1 : v = -1
      · subst hv1
        have G : Hid (seenN (D.take (k + 1)) = n) := hid (by rw [HX.out, if_pos rfl]; rfl)
        go_wp2
        go_roundw
        case rel => exact ⟨k + 1, by omega, by go_num, by rw [G.out], HKX.out⟩
        case measure => simp [intOf]; omega
      · have G : Hid (seenN (D.take (k + 1)) = n + 1) := hid (by rw [HX.out, if_neg hv1])
        have g2 : decide (0 ≤ v) = true := decide_eq_true (by rcases HSV.out with h | h; exact absurd h hv1; exact h.1)
        clear hv1
        go_wp2
        go_roundw
        case rel => exact ⟨k + 1, by omega, by go_num, by rw [G.out]; go_num, HKX.out⟩
        case measure => simp [intOf]; omega
    · obtain rfl : k = D.length := by omega
      have G : Hid (seenN (D.take D.length) = R) := hid (by rw [HRN.out, List.take_length])
      rw [G.out]
      have g1 : decide ((D.length : Int) < (D.length : Int)) = false := decide_eq_false (by omega)
      have g2 : decide (D.length < D.length) = false := decide_eq_false (by omega)
      go_wp2_with fail
      refine (HRE.out _ (HK4.out.trans HKR.out)).mono ?_
      rintro r w5 ⟨rfl, hk5⟩
      have HK5 := hid ((HK4.out.trans HKR.out).trans hk5)
      have g3 : ((R : Int) == (R : Int)) = true := by simp
      have g4 : (R == R) = true := by simp
      clear hk5
      go_wp2
      go_ret
      exact ⟨rfl, HK5.out.below⟩
end Go.Proofs.Ytcbboaoakgngkaa

namespace Go.Proofs.Ytcbboaoakgngkaa
open Go.RowKit Go.Proofs.Heap Go.Proofs.Sch

theorem cells6 {w : World} {b : Nat} {t : TypeId} {v0 v1 v2 v3 v4 v5 : Value} (x0 x1 x2 x3 x4 x5 : Value) (h : w.heap[b]? = some (.cells #[v0, v1, v2, v3, v4, v5] t (0, 0))) :
    ((((((w.setCell ⟨b, 0, none⟩ x0).setCell ⟨b, 1, none⟩ x1).setCell ⟨b, 2, none⟩ x2).setCell ⟨b, 3, none⟩ x3).setCell ⟨b, 4, none⟩ x4).setCell ⟨b, 5, none⟩ x5).heap[b]? = some (.cells #[x0, x1, x2, x3, x4, x5] t (0, 0)) := by
  rw [hsc_same (hsc_same (hsc_same (hsc_same (hsc_same (hsc_same h 0 x0) 1 x1) 2 x2) 3 x3) 4 x4) 5 x5]; rfl

set_option maxRecDepth 20000 in
set_option maxHeartbeats 8000000 in
theorem l_form (s : VSys) (pa : Option Addr) (ca : Nat) (pc : Option Addr) (cc : Nat) (w : World) (hl : s.code.length ≤ 1000) (hc : VP w w.heap.size pc s.code) :
    Calls Try.prog 16 #[SysV s pa ca pc cc] w fun r w' => ∃ oa oc, r = .returned (SysV s pa ca oa oc) ∧ VP w' w'.heap.size oa s.code ∧ Keep (fun _ => False) w w' := by
  obtain ⟨w1, hw1, hb1, hb2, hs1, hk1⟩ := box2 w (SysC s pa ca pc cc) #[.string ⟨#[]⟩, .int .i64 0, .slice none 0 0, .int .u32 0, .int .u32 0, .slice none 0 0] 43 46
  have HB1 := hid hb1; have HB2 := hid hb2; have HK1 := hid hk1
  have HVP : Hid (∀ wy, Keep (fun _ => False) w1 wy → VP wy wy.heap.size pc s.code) := hid (fun wy hk => VP.mono (VP.low hc (Low.keep0 (hk1.trans hk))) (hk1.trans hk).size)
  have HL := hid hl
  have HC : Hid (∀ wy, Keep (fun _ => False) w1 wy → wy.cell? ⟨w.heap.size, 0, none⟩ = some (.string s.name) ∧ wy.cell? ⟨w.heap.size, 1, none⟩ = some (.int .i64 s.stage) ∧ wy.cell? ⟨w.heap.size, 2, none⟩ = some (.slice pa s.after.length ca) ∧ wy.cell? ⟨w.heap.size, 3, none⟩ = some (.int .u32 (s.all : Int)) ∧ wy.cell? ⟨w.heap.size, 4, none⟩ = some (.int .u32 (s.none : Int)) ∧ wy.cell? ⟨w.heap.size, 5, none⟩ = some (.slice pc s.code.length cc)) := hid (fun wy hk =>
    ⟨cell_of (hk.get HB1.out id) (by rfl), cell_of (hk.get HB1.out id) (by rfl), cell_of (hk.get HB1.out id) (by rfl), cell_of (hk.get HB1.out id) (by rfl), cell_of (hk.get HB1.out id) (by rfl), cell_of (hk.get HB1.out id) (by rfl)⟩)
  have HTB : Hid (w.heap.size ≤ w.heap.size + 1 ∧ w.heap.size + 1 < w1.heap.size) := hid (by omega)
  clear hb1 hb2 hs1 hk1 hc hl
  go_enter Try.func16, Try.ntmps16
  go_upto_region 1 with fail
  rw [← hw1]
  clear hw1
  obtain ⟨tb, htb⟩ : ∃ tb, w.heap.size + 1 = tb := ⟨_, rfl⟩
  rw [htb] at HTB HB2 ⊢
  clear htb
  generalize hsb : w.heap.size = sb at HC HB1 ⊢
  clear hsb
  have HKD : Hid (Keep (fun _ => False) w1 w1.drew) := hid (Keep.refl _ _).drew
  obtain ⟨c0, c1, c2, c3, c4, c5⟩ := HC.out _ HKD.out
  refine Plan.wp_region_pl [(false, 0, []), (false, 1, []), (false, 2, []), (false, 3, []), (false, 4, []), (false, 5, []), (false, 6, []), (false, 7, []), (false, 8, []), (false, 9, []), (false, 10, []), (false, 11, []), (true, 12, [9, 8, 7, 6, 5, 4, 3, 2, 1, 0]), (false, 13, []), (true, 14, [])] (by as_aux_lemma => kernel_rfl) (by as_aux_lemma => kernel_rfl) ?_
  iterate 12 (refine Plan.pl_st rfl ?_; go_big_quiet_step (fail); refine wpQuiet_nil ?_)
  refine Plan.pl_ac rfl ?_
  go_wp2_with fail
  refine (l_ops s.code pc cc _ HL.out (HVP.out _ HKD.out)).mono ?_
  rintro r w2 ⟨oa, oc, rfl, hown, hk2⟩
  have HK2 := hid (HKD.out.trans hk2)
  have HFIN : Hid (∀ w3, Keep (fun k => k = tb) w2 w3 → VP w3 w3.heap.size oa s.code ∧ Keep (fun _ => False) w w3) := hid (fun w3 hk => by
    constructor
    · exact vp_own rfl (owns_keep (w' := w3) hown (fun k hk' => hk.block k (hown.lt k hk').2 (fun e => by
        have h1 := (hown.lt k hk').1
        have h2 := HTB.out.2
        have h3 := HKD.out.size
        omega)))
    · exact keep_new (HK1.out.trans HK2.out) hk (fun k e => by have := HTB.out.1; omega))
  clear hown hk2 c0 c1 c2 c3 c4 c5
  obtain ⟨c0, c1, c2, c3, c4, c5⟩ := HC.out _ HK2.out
  go_wp2
  refine Plan.plQ_mk ?_ ?_
  · iterate 10 (refine Plan.chk_st rfl ?_ ?_; focus (go_big_quiet_step (fail); exact wpQuiet_nil rfl))
    exact Plan.chk_end
  iterate 1 (refine Plan.pl_st rfl ?_; go_big_quiet_step (fail); refine wpQuiet_nil ?_)
  refine Plan.pl_ac rfl ?_
  have HBT := hid (HK2.out.get HB2.out id)
  have f0 := free_of HBT.out 0
  have f1 := free_of HBT.out 1
  have f2 := free_of HBT.out 2
  have f3 := free_of HBT.out 3
  have f4 := free_of HBT.out 4
  have f5 := free_of HBT.out 5
  have z0 := cell_of HBT.out (i := 0) (by rfl)
  have z1 := cell_of HBT.out (i := 1) (by rfl)
  have z2 := cell_of HBT.out (i := 2) (by rfl)
  have z3 := cell_of HBT.out (i := 3) (by rfl)
  have z4 := cell_of HBT.out (i := 4) (by rfl)
  have z5 := cell_of HBT.out (i := 5) (by rfl)
  have HB3 := hid (cells6 (.string s.name) (.int .i64 s.stage) (.slice pa s.after.length ca) (.int .u32 (s.all : Int)) (.int .u32 (s.none : Int)) (.slice oa s.code.length oc) HBT.out)
  have HK3 : Hid (Keep (fun k => k = tb) w2 ((((((w2.setCell ⟨tb, 0, none⟩ (.string s.name)).setCell ⟨tb, 1, none⟩ (.int .i64 s.stage)).setCell ⟨tb, 2, none⟩ (.slice pa s.after.length ca)).setCell ⟨tb, 3, none⟩ (.int .u32 (s.all : Int))).setCell ⟨tb, 4, none⟩ (.int .u32 (s.none : Int))).setCell ⟨tb, 5, none⟩ (.slice oa s.code.length oc))) := hid ((((((((Keep.refl (fun k => k = tb) w2).setCell (p := ⟨tb, 0, none⟩) rfl _).setCell (p := ⟨tb, 1, none⟩) rfl _).setCell (p := ⟨tb, 2, none⟩) rfl _).setCell (p := ⟨tb, 3, none⟩) rfl _).setCell (p := ⟨tb, 4, none⟩) rfl _).setCell (p := ⟨tb, 5, none⟩) rfl _))
  go_wp2
  refine Plan.plQ_mk Plan.chk_end ?_
  refine Plan.pl_end ?_
  clear f0 f1 f2 f3 f4 f5 z0 z1 z2 z3 z4 z5
  generalize ((((((w2.setCell ⟨tb, 0, none⟩ (.string s.name)).setCell ⟨tb, 1, none⟩ (.int .i64 s.stage)).setCell ⟨tb, 2, none⟩ (.slice pa s.after.length ca)).setCell ⟨tb, 3, none⟩ (.int .u32 (s.all : Int))).setCell ⟨tb, 4, none⟩ (.int .u32 (s.none : Int))).setCell ⟨tb, 5, none⟩ (.slice oa s.code.length oc)) = w3 at *
  go_wp2
  (try simp only [Exit.inBlock, Exit.then])
  refine bodyPost_ret (results_c rfl _ rfl (run_loadVar_row _ tb _ 46 _ _ _ HB3.out Try.underlying46 rfl (by kernel_rfl))) rfl ?_
  exact ⟨oa, oc, rfl, HFIN.out w3 HK3.out⟩

/-- Whether a system, or a schema, is more than is asked. -/
def greatV (cs : List Cmp) (s : VSys) : Bool := decide (30 < cs.length ∨ 100 < s.name.size ∨ 12 < s.after.length ∨ 80 < s.code.length) || cs.any (fun c => decide (12 < c.fs.length))
set_option maxRecDepth 20000 in
set_option maxHeartbeats 8000000 in
theorem l_great (v : Int) (cs : List Cmp) (p : Option Addr) (cap : Nat) (s : VSys) (pa : Option Addr) (ca : Nat) (pc : Option Addr) (cc : Nat) (w : World) (hf : CP w w.heap.size p cs) :
    Calls Try.prog 14 #[.agg #[.int .i64 v, .slice p cs.length cap], SysV s pa ca pc cc] w fun r w' => r = .returned (.bool (greatV cs s)) ∧ Keep (fun _ => False) w w' := by
  obtain ⟨w1, hw1, hb1, hb2, hs1, hk1⟩ := box2 w #[.int .i64 v, .slice p cs.length cap] (SysC s pa ca pc cc) 36 43
  have HB1 := hid hb1; have HB2 := hid hb2; have HK1 := hid hk1
  have HCP : Hid (CP w1 w1.heap.size p cs) := hid (CP.mono (CP.low hf (Low.keep0 hk1)) hk1.size)
  have s1 := cell_of hb1 (i := 1) (by rfl)
  have c0 := cell_of hb2 (i := 0) (by rfl)
  have c2 := cell_of hb2 (i := 2) (by rfl)
  have c5 := cell_of hb2 (i := 5) (by rfl)
  simp only [List.getElem_toArray, List.getElem_cons_succ, List.getElem_cons_zero] at s1 c0 c2 c5
  have HG : Hid (greatV cs s = (decide (30 < cs.length ∨ 100 < s.name.size ∨ 12 < s.after.length ∨ 80 < s.code.length) || cs.any (fun c => decide (12 < c.fs.length)))) := hid rfl
  generalize greatV cs s = R at *
  clear hb1 hb2 hs1 hk1 hf
  go_enter Try.func14, Try.ntmps14
  go_upto_region 1 with fail
  rw [← hw1]
  clear hw1
  generalize w.heap.size + 1 = tb at *
  generalize w.heap.size = sb at *
  by_cases h1 : 30 < cs.length
  · have g1 : decide ((30 : Int) < (cs.length : Int)) = true := decide_eq_true (by omega)
    have g2 : decide (30 < cs.length) = true := decide_eq_true h1
    have G : Hid (R = true) := hid (by rw [HG.out, decide_eq_true (.inl h1)]; rfl)
    go_wp2
    go_ret
    exact ⟨by rw [G.out]; rfl, HK1.out⟩
  have g1 : decide ((30 : Int) < (cs.length : Int)) = false := decide_eq_false (by omega)
  have g2 : decide (30 < cs.length) = false := decide_eq_false h1
  by_cases h2 : 100 < s.name.size
  · have g3 : decide ((100 : Int) < (s.name.size : Int)) = true := decide_eq_true (by omega)
    have g4 : decide (100 < s.name.size) = true := decide_eq_true h2
    have G : Hid (R = true) := hid (by rw [HG.out, decide_eq_true (.inr (.inl h2))]; rfl)
    go_wp2
    go_ret
    exact ⟨by rw [G.out]; rfl, HK1.out⟩
  have g3 : decide ((100 : Int) < (s.name.size : Int)) = false := decide_eq_false (by omega)
  have g4 : decide (100 < s.name.size) = false := decide_eq_false h2
  by_cases h3 : 12 < s.after.length
  · have g5 : decide ((12 : Int) < (s.after.length : Int)) = true := decide_eq_true (by omega)
    have g6 : decide (12 < s.after.length) = true := decide_eq_true h3
    have G : Hid (R = true) := hid (by rw [HG.out, decide_eq_true (.inr (.inr (.inl h3)))]; rfl)
    go_wp2
    go_ret
    exact ⟨by rw [G.out]; rfl, HK1.out⟩
  have g5 : decide ((12 : Int) < (s.after.length : Int)) = false := decide_eq_false (by omega)
  have g6 : decide (12 < s.after.length) = false := decide_eq_false h3
  by_cases h4 : 80 < s.code.length
  · have g7 : decide ((80 : Int) < (s.code.length : Int)) = true := decide_eq_true (by omega)
    have g8 : decide (80 < s.code.length) = true := decide_eq_true h4
    have G : Hid (R = true) := hid (by rw [HG.out, decide_eq_true (.inr (.inr (.inr h4)))]; rfl)
    go_wp2
    go_ret
    exact ⟨by rw [G.out]; rfl, HK1.out⟩
  have g7 : decide ((80 : Int) < (s.code.length : Int)) = false := decide_eq_false (by omega)
  have g8 : decide (80 < s.code.length) = false := decide_eq_false h4
  have HG2 : Hid (R = cs.any (fun c => decide (12 < c.fs.length))) := hid (by rw [HG.out, decide_eq_false (by omega)]; rfl)
  go_wp2_with fail
  clear g1 g2 g3 g4 g5 g6 g7 g8 HG
  go_loopw [5] (fun i wr => ∃ k : Nat, k ≤ cs.length ∧ i = iV k ∧ (∀ c ∈ cs.take k, ¬ 12 < c.fs.length) ∧ w1 = wr) (fun i _ => cs.length + 1 - (intOf i).toNat)
  case atStart => exact ⟨0, by omega, rfl, by simp, rfl⟩
  case round =>
    obtain ⟨k, hk, rfl, hno, rfl⟩ := hrel
    have HNO := hid hno
    clear hno
    by_cases hlt : k < cs.length
    · obtain ⟨c, hcc⟩ : ∃ c, cs[k]? = some c := ⟨cs[k], by simp [hlt]⟩
      obtain ⟨b, off, fq, fk, rfl, hb, d0, d1, d2, hfk, hff⟩ := CP.at HCP.out hcc
      have hin : (0 : Int) ≤ (k : Int) ∧ (k : Int) < (cs.length : Int) := ⟨by omega, by omega⟩
      have HCC := hid hcc
      clear hcc hb d0 d1 hfk hff
      by_cases h12 : 12 < c.fs.length
      · have g1 : decide ((12 : Int) < (c.fs.length : Int)) = true := decide_eq_true (by omega)
        have g2 : decide (12 < c.fs.length) = true := decide_eq_true h12
        have G : Hid (R = true) := hid (by rw [HG2.out]; exact List.any_eq_true.2 ⟨c, List.mem_of_getElem? HCC.out, decide_eq_true h12⟩)
        go_wp2
        go_ret
        exact ⟨by rw [G.out]; rfl, HK1.out⟩
      · have g1 : decide ((12 : Int) < (c.fs.length : Int)) = false := decide_eq_false (by omega)
        have g2 : decide (12 < c.fs.length) = false := decide_eq_false h12
        have G : Hid (∀ d ∈ cs.take (k + 1), ¬ 12 < d.fs.length) := hid (fun d hd => by
          rw [take_next HCC.out] at hd
          rcases List.mem_append.1 hd with h | h
          · exact HNO.out d h
          · rw [List.mem_singleton.1 h]; exact h12)
        go_wp2
        go_roundw
        case rel => exact ⟨k + 1, by omega, by go_num, G.out, by first | rfl | trivial⟩
        case measure => simp [intOf]; omega
    · obtain rfl : k = cs.length := by omega
      have G : Hid (R = false) := hid (by
        rw [HG2.out, List.any_eq_false]
        intro d hd
        simp only [decide_eq_true_iff]
        exact HNO.out d (by rwa [List.take_length]))
      have g1 : decide ((cs.length : Int) < (cs.length : Int)) = false := decide_eq_false (by omega)
      have g2 : decide (cs.length < cs.length) = false := decide_eq_false (by omega)
      go_wp2
      go_ret
      exact ⟨by rw [G.out]; rfl, HK1.out⟩
end Go.Proofs.Ytcbboaoakgngkaa
