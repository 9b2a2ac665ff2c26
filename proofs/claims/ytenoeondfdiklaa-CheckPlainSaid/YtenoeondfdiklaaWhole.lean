/- What is proved: whether there is a rule for each component, of one that there is. -/
import Derived.Test.YtenoeondfdiklaaForms
import Derived.Test.YtenoeondfdiklaaSchMore
import Derived.Test.YtenoeondfdiklaaSchAt
namespace Go.Proofs.Ytenoeondfdiklaa
open Go.RowKit Go.Proofs.Heap Go.Proofs.Sch Go.Proofs.Wide

abbrev nV (n : Int) : Value := .int .i64 n

set_option maxRecDepth 20000 in
set_option maxHeartbeats 4000000 in
theorem eq_ints (a b : List Int) (p : Option Addr) (z : Nat) (p2 : Option Addr) (z2 : Nat) (w : World) (base : Nat) (base2 : Nat) (hl : a.length ≤ 65536) (ha : w.ownsRow base 3 1 (.slice p a.length z) a.length (a.map nV)) (hb : w.ownsRow base2 3 1 (.slice p2 b.length z2) b.length (b.map nV)) :
    Calls Try.prog 38 #[.slice p a.length z, .slice p2 b.length z2] w fun r w' => r = .returned (.bool (decide (a = b))) ∧ Keep (fun _ => False) w w' := by
  have HA := hid ha; have HB := hid hb
  clear ha hb
  go_enter Try.func38, Try.ntmps38
  by_cases h1 : a.length = b.length
  rotate_left
  · have g1 : ((a.length : Int) != (b.length : Int)) = true := by simp only [bne, beq_eq_false_iff_ne.2 (show (a.length : Int) ≠ (b.length : Int) by omega)]; rfl
    have g2 : (a.length != b.length) = true := by simp only [bne, beq_eq_false_iff_ne.2 h1]; rfl
    have G : Hid (decide (a = b) = false) := hid (decide_eq_false (fun e => h1 (by rw [e])))
    go_wp2
    go_ret
    exact ⟨by rw [G.out]; rfl, Keep.refl _ _⟩
  have HAB := hid h1
  rw [← h1] at HB ⊢
  clear h1
  go_wp2_with fail
  go_loopw [5, 13] (fun _ i wr => ∃ k : Nat, k ≤ a.length ∧ i = iV k ∧ (∀ j, j < k → a[j]? = b[j]?) ∧ Keep (fun _ => False) w wr) (fun _ i _ => a.length + 1 - (intOf i).toNat)
  case atStart => exact ⟨0, Nat.zero_le _, rfl, fun j hj => absurd hj (Nat.not_lt_zero j), Keep.refl _ _⟩
  case round =>
    obtain ⟨k, hk, rfl, hal, hkr⟩ := hrel
    have HAL := hid hal; have HKR := hid hkr
    clear hal hkr
    by_cases hlt : k < a.length
    · obtain ⟨x, hx⟩ : ∃ x, a[k]? = some x := ⟨a[k], by simp [hlt]⟩
      obtain ⟨y, hy⟩ : ∃ y, b[k]? = some y := ⟨b[k]'(by have := HAB.out; omega), by simp [show k < b.length by have := HAB.out; omega]⟩
      obtain ⟨g, rfl⟩ := owns_some HA.out (by omega)
      obtain ⟨g2, rfl⟩ := owns_some HB.out (by omega)
      have HA2 := owns_keep HA.out (fun q hq => HKR.out.block q (HA.out.lt q hq).2 (fun h => h))
      have HB2 := owns_keep HB.out (fun q hq => HKR.out.block q (HB.out.lt q hq).2 (fun h => h))
      have c0 : wr.drew.cell? ⟨g, k, none⟩ = some (nV x) := (owns_cell HA2 hlt).trans (by rw [List.getElem?_map, hx]; rfl)
      have c1 : wr.drew.cell? ⟨g2, k, none⟩ = some (nV y) := (owns_cell HB2 hlt).trans (by rw [List.getElem?_map, hy]; rfl)
      have hin : (0 : Int) ≤ (k : Int) ∧ (k : Int) < (a.length : Int) := ⟨by omega, by omega⟩
      have HXY := hid hx; have HXY2 := hid hy
      clear HA2 HB2 hx hy
      go_upto_region 6 with fail
      refine Plan.wp_region_reads (by kernel_rfl) (by kernel_rfl) ?_
      iterate 9 (go_big_quiet_step (fail))
      refine wpQuiet_nil ?_
      by_cases hxy : x = y
      · have g1 : (x != y) = false := by simp only [bne, beq_iff_eq.2 hxy]; rfl
        have HN : Hid (∀ j, j < k + 1 → a[j]? = b[j]?) := hid (fun j hj => by
          by_cases hjk : j < k
          · exact HAL.out j hjk
          · obtain rfl : j = k := by omega
            rw [HXY.out, HXY2.out, hxy])
        clear hxy
        go_wp2
        go_roundw
        case rel => exact ⟨k + 1, by omega, by go_num, HN.out, HKR.out.drew⟩
        case measure => simp [intOf]; omega
      · have g1 : (x != y) = true := by simp only [bne, beq_eq_false_iff_ne.2 hxy]; rfl
        have G : Hid (decide (a = b) = false) := hid (decide_eq_false (fun e => hxy (by
          have h1 := HXY.out; have h2 := HXY2.out
          rw [e, h2] at h1; injection h1 with h1; exact h1.symm)))
        clear hxy
        go_wp2
        go_ret
        exact ⟨by rw [G.out]; rfl, HKR.out.drew⟩
    · obtain rfl : k = a.length := by omega
      have g0 : decide ((a.length : Int) < (a.length : Int)) = false := decide_eq_false (by omega)
      have G : Hid (decide (a = b) = true) := hid (decide_eq_true (List.ext_getElem? (fun j => by
        by_cases hj : j < a.length
        · exact HAL.out j hj
        · rw [List.getElem?_eq_none (by omega), List.getElem?_eq_none (by have := HAB.out; omega)])))
      go_wp2
      go_ret
      exact ⟨by rw [G.out]; rfl, HKR.out⟩

theorem eq_ints' (a b : List Int) (n m : Nat) (p : Option Addr) (z : Nat) (p2 : Option Addr) (z2 : Nat) (w : World) (base : Nat) (base2 : Nat) (hl : n ≤ 65536) (hn : a.length = n) (hm : b.length = m) (ha : w.ownsRow base 3 1 (.slice p n z) n (a.map nV)) (hb : w.ownsRow base2 3 1 (.slice p2 m z2) m (b.map nV)) :
    Calls Try.prog 38 #[.slice p n z, .slice p2 m z2] w fun r w' => r = .returned (.bool (decide (a = b))) ∧ Keep (fun _ => False) w w' := by
  subst hn; subst hm
  exact eq_ints a b p z p2 z2 w base base2 hl ha hb

/-- Whether there is a rule for each component, of one that there is. -/
def wholeB (ca cb : List Cmp) (rs : List Rul) : Bool := rs.all (fun r => decide (r.old = 0) || ca.any (fun c => decide (c.id = r.old))) && decide (rs.map (·.new) = cb.map (·.id))

def hasB (ca : List Cmp) (r : Rul) : Bool := decide (r.old = 0) || ca.any (fun c => decide (c.id = r.old))

set_option maxRecDepth 20000 in
set_option maxHeartbeats 8000000 in
theorem is_whole (va : Int) (ca : List Cmp) (p : Option Addr) (z : Nat) (vb : Int) (cb : List Cmp) (p2 : Option Addr) (z2 : Nat) (pa pb : Int) (rs : List Rul) (q : Option Addr) (qc : Nat) (w : World)
    (ha : Small ca) (hb : Small cb) (hl : rs.length ≤ 65536) (hca : CP w w.heap.size p ca) (hcb : CP w w.heap.size p2 cb) (hc : UP w w.heap.size q rs) :
    Calls Try.prog 27 #[.agg #[.int .i64 va, .slice p ca.length z], .agg #[.int .i64 vb, .slice p2 cb.length z2], .agg #[.int .i64 pa, .int .i64 pb, .slice q rs.length qc]] w
      fun e w' => e = .returned (.bool (wholeB ca cb rs)) ∧ Keep (fun _ => False) w w' := by
  obtain ⟨i0, hi0, hz0, hz1, hz2⟩ := info_parts' info_int
  obtain ⟨w3, hw3, hb1, hb2, hb3, hs3, hk3⟩ := box3 w #[.int .i64 va, .slice p ca.length z] #[.int .i64 vb, .slice p2 cb.length z2] #[.int .i64 pa, .int .i64 pb, .slice q rs.length qc] 32 32 35
  have HK := hid hk3
  have HD : Hid (∀ wy, Keep (fun _ => False) w3 wy → CP wy wy.heap.size p ca ∧ CP wy wy.heap.size p2 cb ∧ UP wy wy.heap.size q rs) := hid (fun wy hk =>
    ⟨CP.mono (CP.low hca (Low.keep0 (hk3.trans hk))) (hk3.trans hk).size, CP.mono (CP.low hcb (Low.keep0 (hk3.trans hk))) (hk3.trans hk).size, UP.mono (UP.low hc (Low.keep0 (hk3.trans hk))) (hk3.trans hk).size⟩)
  have HA := hid ha; have HBS := hid hb
  have HWH : Hid (wholeB ca cb rs = (rs.all (hasB ca) && decide (rs.map (·.new) = cb.map (·.id)))) := hid rfl
  clear hca hcb hc hk3 hs3 ha hb
  go_enter Try.func27, Try.ntmps27
  go_upto_region 1 with fail
  rw [← hw3]
  clear hw3
  generalize w.heap.size = sb at *
  have HW : Hid (∀ wy, Keep (fun _ => False) w3 wy → (wy.cell? ⟨sb, 0, none⟩ = some (.int .i64 va) ∧ wy.cell? ⟨sb, 1, none⟩ = some (.slice p ca.length z)) ∧ (wy.cell? ⟨sb + 1, 0, none⟩ = some (.int .i64 vb) ∧ wy.cell? ⟨sb + 1, 1, none⟩ = some (.slice p2 cb.length z2)) ∧
      (wy.cell? ⟨sb + 1 + 1, 2, none⟩ = some (.slice q rs.length qc))) := hid (fun wy hk =>
    ⟨⟨cell_of (hk.get hb1 id) (by rfl), cell_of (hk.get hb1 id) (by rfl)⟩, ⟨cell_of (hk.get hb2 id) (by rfl), cell_of (hk.get hb2 id) (by rfl)⟩, cell_of (hk.get hb3 id) (by rfl)⟩)
  clear hb1 hb2 hb3
  obtain ⟨⟨s0, s1⟩, ⟨s2, s3⟩, s4⟩ := HW.out _ (Keep.refl _ _)
  go_wp2_with fail
  clear s0 s1 s2 s3 s4
  go_loopw [7, 9, 10, 11, 15] (fun v _ _ _ i wr => ∃ k : Nat, k ≤ rs.length ∧ i = iV k ∧ wr.ownsRow w3.heap.size 3 1 v k ((rs.take k).map (fun r => nV r.new)) ∧ (∀ r ∈ rs.take k, hasB ca r = true) ∧ Keep (fun _ => False) w3 wr) (fun _ _ _ _ i _ => rs.length + 1 - (intOf i).toNat)
  case atStart => exact ⟨0, Nat.zero_le _, rfl, World.ownsRow_nil _ _ _ _, by simp, Keep.refl _ _⟩
  case round =>
    obtain ⟨k, hk, rfl, how, hal, hkr⟩ := hrel
    obtain ⟨vp, vc, rfl⟩ := owns_val how
    have HO := hid how; have HAL := hid hal; have HKR := hid hkr
    clear how hal hkr
    by_cases hlt : k < rs.length
    · obtain ⟨u, huk⟩ : ∃ u, rs[k]? = some u := ⟨rs[k], by simp [hlt]⟩
      have HTK : Hid ((rs.take (k + 1)).map (fun r => nV r.new) = (rs.take k).map (fun r => nV r.new) ++ [nV u.new]) := hid (by rw [take_next huk, List.map_append]; rfl)
      have HT2 := hid (take_next huk)
      have HMU := hid (List.mem_of_getElem? huk)
      obtain ⟨eb, eo, eq, ec, rfl, hb2, e0, e1, e2, hec, he⟩ := UP.at (HD.out _ HKR.out).2.2 huk
      have hin : (0 : Int) ≤ (k : Int) ∧ (k : Int) < (rs.length : Int) := ⟨by omega, by omega⟩
      obtain ⟨un, uo, us⟩ := u
      simp only at e0 e1 e2 HTK
      obtain ⟨w2, hw2, hb2', hs2, hk2⟩ := box1 wr #[.int .i64 un, .int .i64 uo, .slice eq us.length ec] 27
      have HK2 := hid (HKR.out.trans hk2)
      have HO2 : Hid (w2.ownsRow w3.heap.size 3 1 (.slice vp k vc) k ((rs.take k).map (fun r => nV r.new))) := hid (by rw [hw2]; exact HO.out.alloc _)
      have HB2 := hid hb2'
      clear he hec hb2 huk hs2 hk2 hb2'
      generalize (rs.take k).map (fun r => nV r.new) = xs at *
      go_upto_region 5 with fail
      rw [← hw2]
      clear hw2 e0 e1 e2
      generalize wr.heap.size = ub at *
      obtain ⟨⟨s0, s1⟩, ⟨s2, s3⟩, s4⟩ := HW.out _ HK2.out
      have t1 : w2.cell? ⟨ub, 1, none⟩ = some (.int .i64 uo) := cell_of HB2.out (by rfl)
      go_wp2_with fail
      refine (find_any uo va ca p z _ HA.out (HD.out _ HK2.out).1).mono ?_
      rintro r w4 ⟨fa, fb, fq, fn, fz, rfl, hk4⟩
      obtain ⟨w5, hw5, hb5, hs5, hk5⟩ := box1 w4 #[.int .i64 fa, .string fb, .slice fq fn fz] 24
      have hk45 := hk4.trans hk5
      have HK5 := hid (HK2.out.trans hk45)
      have t0 : w5.cell? ⟨ub, 0, none⟩ = some (.int .i64 un) := cell_of (hk45.get HB2.out id) (by rfl)
      have t1' : w5.cell? ⟨ub, 1, none⟩ = some (.int .i64 uo) := cell_of (hk45.get HB2.out id) (by rfl)
      have HO5 : Hid (w5.ownsRow w3.heap.size 3 1 (.slice vp k vc) k xs) := hid (owns_keep HO2.out (fun g hg => hk45.block g (HO2.out.lt g hg).2 (fun h => h)))
      have HSZ := hid HK5.out.size
      clear hs5 hb5 hk4 hk5 hk45 s0 s1 s2 s3 s4 t1
      go_upto_region 6 with fail
      rw [← hw5]
      clear hw5
      generalize w4.heap.size = cbk at *
      cases han : ca.any (fun c => decide (c.id = uo))
      · by_cases h0 : uo = 0
        · have HH : Hid (hasB ca ⟨un, uo, us⟩ = true) := hid (by unfold hasB; rw [decide_eq_true h0]; rfl)
          have g1 : (uo != 0) = false := by simp only [bne, beq_iff_eq.2 h0]; rfl
          clear han h0
          go_wp2_with (at_builtin; go_loud (refine wpList_append_rd rfl (.tmp 33) (.tmp 36) _ rfl w3.heap.size _ i0 _ 1 8 Try.underlying89 hi0 hz0 hz1 hz2 rfl (by decide) _ k _ (by rfl) (HO5.out.alloc _) _ 1 [.int .i64 un] (by rfl) (rd_block (heap_alloc_new w5 _) (by simp) (by simp [Value.oneCell'])) (by unfold maxLen; omega) (by omega) (by have := HSZ.out; simp; omega) ?_); go_loud (intro v' w6 hown6 hgrow6 hat6 hn6; obtain ⟨vq, vd, rfl⟩ := owns_val hown6; have HO6 := hid hown6; have HK6 := hid ((HK5.out.alloc _).grown hgrow6 (fun k hk => .inl (HO5.out.lt k hk).1)); clear hown6 hgrow6 hat6 hn6))
          have HN : Hid (∀ r ∈ rs.take (k + 1), hasB ca r = true) := hid (fun r hr => by
            rw [HT2.out] at hr
            rcases List.mem_append.1 hr with h | h
            · exact HAL.out r h
            · rw [List.mem_singleton.1 h]; exact HH.out)
          go_wp2
          go_roundw
          case rel => exact ⟨k + 1, by omega, by go_num, by rw [HTK.out]; exact HO6.out, HN.out, HK6.out⟩
          case measure => simp [intOf]; omega
        · have g1 : (uo != 0) = true := by simp only [bne, beq_eq_false_iff_ne.2 h0]; rfl
          have HH : Hid (hasB ca ⟨un, uo, us⟩ = false) := hid (by unfold hasB; rw [decide_eq_false h0, han]; rfl)
          have G : Hid (wholeB ca cb rs = false) := hid (by
            rw [HWH.out]
            have : rs.all (hasB ca) = false := List.all_eq_false.2 ⟨_, HMU.out, by rw [HH.out]; simp⟩
            rw [this]; rfl)
          clear han h0
          go_wp2
          go_ret
          exact ⟨by rw [G.out]; rfl, HK.out.trans HK5.out⟩
      · have HH : Hid (hasB ca ⟨un, uo, us⟩ = true) := hid (by unfold hasB; rw [han]; simp)
        clear han
        go_wp2_with (at_builtin; go_loud (refine wpList_append_rd rfl (.tmp 33) (.tmp 36) _ rfl w3.heap.size _ i0 _ 1 8 Try.underlying89 hi0 hz0 hz1 hz2 rfl (by decide) _ k _ (by rfl) (HO5.out.alloc _) _ 1 [.int .i64 un] (by rfl) (rd_block (heap_alloc_new w5 _) (by simp) (by simp [Value.oneCell'])) (by unfold maxLen; omega) (by omega) (by have := HSZ.out; simp; omega) ?_); go_loud (intro v' w6 hown6 hgrow6 hat6 hn6; obtain ⟨vq, vd, rfl⟩ := owns_val hown6; have HO6 := hid hown6; have HK6 := hid ((HK5.out.alloc _).grown hgrow6 (fun k hk => .inl (HO5.out.lt k hk).1)); clear hown6 hgrow6 hat6 hn6))
        have HN : Hid (∀ r ∈ rs.take (k + 1), hasB ca r = true) := hid (fun r hr => by
          rw [HT2.out] at hr
          rcases List.mem_append.1 hr with h | h
          · exact HAL.out r h
          · rw [List.mem_singleton.1 h]; exact HH.out)
        go_wp2
        go_roundw
        case rel => exact ⟨k + 1, by omega, by go_num, by rw [HTK.out]; exact HO6.out, HN.out, HK6.out⟩
        case measure => simp [intOf]; omega
    · obtain rfl : k = rs.length := by omega
      have HAA : Hid (rs.all (hasB ca) = true) := hid (List.all_eq_true.2 (by have := HAL.out; rwa [List.take_length] at this))
      have HOO : Hid (wr.ownsRow w3.heap.size 3 1 (.slice vp rs.length vc) rs.length ((rs.map (·.new)).map nV)) := hid (by
        have := HO.out
        rw [List.take_length] at this
        rw [List.map_map]
        exact this)
      have HG := hid (HWH.out.trans (by rw [HAA.out, Bool.true_and]))
      have HLN : Hid ((rs.map (·.new)).length = rs.length) := hid (List.length_map ..)
      obtain ⟨⟨s0, s1⟩, ⟨s2, s3⟩, s4⟩ := HW.out _ HKR.out
      clear HAL HAA HO HWH
      go_wp2_with fail
      refine (sch_ids vb cb p2 z2 _ HBS.out.1 (HD.out _ HKR.out).2.1).mono ?_
      rintro r w4 ⟨p', c', rfl, how4, hk4⟩
      have HO4 : Hid (w4.ownsRow wr.heap.size 3 1 (.slice p' cb.length c') cb.length ((cb.map (·.id)).map nV)) := hid (by rw [List.map_map]; exact how4)
      have HOR := hid (owns_keep HOO.out (fun g hg => hk4.block g (HOO.out.lt g hg).2 (fun h => h)))
      have HK4 := hid (HKR.out.trans hk4)
      have HL2 : Hid ((cb.map (·.id)).length = cb.length) := hid (List.length_map ..)
      clear how4 hk4 s0 s1 s2 s3 s4
      go_wp2_with fail
      refine (eq_ints' _ _ _ _ vp vc p' c' _ _ _ hl HLN.out HL2.out HOR.out HO4.out).mono ?_
      rintro r w6 ⟨rfl, hk6⟩
      have HK6 := hid (HK4.out.trans hk6)
      clear hk6
      go_wp2
      go_ret
      exact ⟨by rw [HG.out]; rfl, HK.out.trans HK6.out⟩
end Go.Proofs.Ytenoeondfdiklaa
