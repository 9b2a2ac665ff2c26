/- What is proved: what comp of the diff's reference answers, kinds 3, 7. -/
import Derived.Test.YtdekdefjfaoclaaDoorRf9c
import Derived.Test.YtdekdefjfaoclaaDoorDif2
namespace Go.Proofs.YtdekdefjfaoclaaDoor
open Go.RowKit Go.Proofs.Heap Go.Proofs.Sch

def renL (a b : Cmp) : List Chg := if a.name = b.name then [] else [⟨3, a.id, noN⟩]
def movL (a b : Cmp) : List Chg := if mvRun b.fs a.fs (-1) false = true then [⟨7, a.id, noN⟩] else []

set_option maxRecDepth 20000 in
set_option maxHeartbeats 8000000 in
theorem rf_comp3 (a b : Cmp) (p : Option Addr) (cap : Nat) (p2 : Option Addr) (cap2 : Nat) (w : World) (hl : a.fs.length ≤ 65536) (hl2 : b.fs.length ≤ 65536) (hf : FP w w.heap.size p a.fs) (hf2 : FP w w.heap.size p2 b.fs) :
    Calls Tryd.prog 24 #[.agg #[.int .i64 a.id, .string a.name, .slice p a.fs.length cap], .agg #[.int .i64 b.id, .string b.name, .slice p2 b.fs.length cap2], .int .i64 3] w fun r w' => ∃ v, r = .returned v ∧
      w'.ownsRow w.heap.size 41 3 v (renL a b).length ((renL a b).flatMap ccl3) ∧ Keep (fun _ => False) w w' := by
  obtain ⟨i0, hi0, hz0, hz1, hz2⟩ := info_parts' info_chg2
  obtain ⟨ai, an, fs⟩ := a
  obtain ⟨bi, bn, gs⟩ := b
  simp only at hl hl2 hf hf2
  obtain ⟨w2, hw2, hb1, hb2, hs2, hk2⟩ := box2 w #[.int .i64 ai, .string an, .slice p fs.length cap] #[.int .i64 bi, .string bn, .slice p2 gs.length cap2] 46 46
  obtain ⟨w3, hw3, _, hs3, hk3⟩ := box1 w2 #[] 41
  have HO0 : Hid (w3.ownsRow w2.heap.size 41 3 (.slice (some ⟨w2.heap.size, 0, none⟩) 0 0) 0 []) := hid (hw3 ▸ World.ownsRow_made w2 #[] 0 (Nat.le_refl _) (by unfold maxLen; omega) (by simp))
  have HK := hid hk2
  have HK3 := hid hk3
  have HD : Hid (∀ wy, Keep (fun _ => False) w2 wy → FP wy wy.heap.size p fs ∧ FP wy wy.heap.size p2 gs) := hid (fun wy hk =>
    ⟨FP.mono (FP.low hf (Low.keep0 (hk2.trans hk))) (hk2.trans hk).size, FP.mono (FP.low hf2 (Low.keep0 (hk2.trans hk))) (hk2.trans hk).size⟩)
  have HS2 := hid hk2.size
  have hs2' := hs2
  have HSS := hid hs2'
  clear hf hf2 hk2 hk3 hs2 hs3 hs2'
  go_enter Tryd.func24, Tryd.ntmps24
  go_upto_region 2 with fail
  rw [← hw2]
  clear hw2
  rw [← hw3]
  clear hw3
  generalize hsb : w.heap.size = sb at *
  have HOB : Hid (w2.heap.size = sb + 1 + 1) := hid (by have := HSS.out; omega)
  rw [HOB.out] at HO0
  have HW : Hid (∀ wy, Keep (fun _ => False) w2 wy → (wy.cell? ⟨sb, 0, none⟩ = some (.int .i64 ai) ∧ wy.cell? ⟨sb, 1, none⟩ = some (.string an) ∧ wy.cell? ⟨sb, 2, none⟩ = some (.slice p fs.length cap)) ∧ (wy.cell? ⟨sb + 1, 0, none⟩ = some (.int .i64 bi) ∧ wy.cell? ⟨sb + 1, 1, none⟩ = some (.string bn) ∧ wy.cell? ⟨sb + 1, 2, none⟩ = some (.slice p2 gs.length cap2))) := hid (fun wy hk =>
    ⟨⟨cell_of (hk.get hb1 id) (by rfl), cell_of (hk.get hb1 id) (by rfl), cell_of (hk.get hb1 id) (by rfl)⟩, cell_of (hk.get hb2 id) (by rfl), cell_of (hk.get hb2 id) (by rfl), cell_of (hk.get hb2 id) (by rfl)⟩)
  clear hb1 hb2
  obtain ⟨⟨s0, s1, s2⟩, s3, s4, s5⟩ := HW.out _ HK3.out
  have HSZ := hid HK3.out.size
  by_cases hn : an = bn
  · have HL : Hid (renL ⟨ai, an, fs⟩ ⟨bi, bn, gs⟩ = []) := hid (if_pos hn)
    subst hn
    go_wp2
    go_ret
    rw [HL.out]
    exact ⟨_, rfl, owns_mono HO0.out (show w.heap.size ≤ sb + 1 + 1 by omega), HK.out.trans HK3.out⟩
  · have HL : Hid (renL ⟨ai, an, fs⟩ ⟨bi, bn, gs⟩ = [⟨3, ai, noN⟩]) := hid (if_neg hn)
    have g2 : (!an.toList == bn.toList) = true := by rw [beq_eq_false_iff_ne.2 (fun h => hn (toList_inj h))]; rfl
    have g3 : ¬ an.toList = bn.toList := fun h => hn (toList_inj h)
    clear hn
    go_wp2_with (at_builtin; go_loud (refine wpList_append_rd rfl (.tmp 24) (.tmp 28) _ rfl (sb + 1 + 1) _ i0 _ 3 32 Tryd.underlying37 hi0 hz0 hz1 hz2 rfl (by decide) _ 0 [] (by rfl) (HO0.out.alloc _) _ 1 _ (by rfl) (rd_block (heap_alloc_new w3 _) (by simp) (by simp [Value.oneCell'])) (by unfold maxLen; omega) (by omega) (by have := HSZ.out; have := HOB.out; simp; omega) ?_); go_loud (intro v' w6 hown6 hgrow6 hat6 hn6; have HO6 := hid hown6; have HK6 := hid ((HK3.out.alloc _).grown hgrow6 (fun k hk => .inl (by have := (HO0.out.lt k hk).1; have := HOB.out; omega))); clear hown6 hgrow6 hat6 hn6))
    go_wp2
    go_ret
    rw [HL.out]
    refine ⟨_, rfl, ?_, HK.out.trans HK6.out⟩
    have h := owns_mono HO6.out (show w.heap.size ≤ sb + 1 + 1 by omega)
    simpa [ccl3, noN] using h

set_option maxRecDepth 20000 in
set_option maxHeartbeats 8000000 in
theorem rf_comp7 (a b : Cmp) (p : Option Addr) (cap : Nat) (p2 : Option Addr) (cap2 : Nat) (w : World) (hl : a.fs.length ≤ 65536) (hl2 : b.fs.length ≤ 65536) (hf : FP w w.heap.size p a.fs) (hf2 : FP w w.heap.size p2 b.fs) :
    Calls Tryd.prog 24 #[.agg #[.int .i64 a.id, .string a.name, .slice p a.fs.length cap], .agg #[.int .i64 b.id, .string b.name, .slice p2 b.fs.length cap2], .int .i64 7] w fun r w' => ∃ v, r = .returned v ∧
      w'.ownsRow w.heap.size 41 3 v (movL a b).length ((movL a b).flatMap ccl3) ∧ Keep (fun _ => False) w w' := by
  obtain ⟨i0, hi0, hz0, hz1, hz2⟩ := info_parts' info_chg2
  obtain ⟨ai, an, fs⟩ := a
  obtain ⟨bi, bn, gs⟩ := b
  simp only at hl hl2 hf hf2
  obtain ⟨w2, hw2, hb1, hb2, hs2, hk2⟩ := box2 w #[.int .i64 ai, .string an, .slice p fs.length cap] #[.int .i64 bi, .string bn, .slice p2 gs.length cap2] 46 46
  obtain ⟨w3, hw3, _, hs3, hk3⟩ := box1 w2 #[] 41
  have HO0 : Hid (w3.ownsRow w2.heap.size 41 3 (.slice (some ⟨w2.heap.size, 0, none⟩) 0 0) 0 []) := hid (hw3 ▸ World.ownsRow_made w2 #[] 0 (Nat.le_refl _) (by unfold maxLen; omega) (by simp))
  have HK := hid hk2
  have HK3 := hid hk3
  have HD : Hid (∀ wy, Keep (fun _ => False) w2 wy → FP wy wy.heap.size p fs ∧ FP wy wy.heap.size p2 gs) := hid (fun wy hk =>
    ⟨FP.mono (FP.low hf (Low.keep0 (hk2.trans hk))) (hk2.trans hk).size, FP.mono (FP.low hf2 (Low.keep0 (hk2.trans hk))) (hk2.trans hk).size⟩)
  have HS2 := hid hk2.size
  have hs2' := hs2
  have HSS := hid hs2'
  clear hf hf2 hk2 hk3 hs2 hs3 hs2'
  go_enter Tryd.func24, Tryd.ntmps24
  go_upto_region 2 with fail
  rw [← hw2]
  clear hw2
  rw [← hw3]
  clear hw3
  generalize hsb : w.heap.size = sb at *
  have HOB : Hid (w2.heap.size = sb + 1 + 1) := hid (by have := HSS.out; omega)
  rw [HOB.out] at HO0
  have HW : Hid (∀ wy, Keep (fun _ => False) w2 wy → (wy.cell? ⟨sb, 0, none⟩ = some (.int .i64 ai) ∧ wy.cell? ⟨sb, 1, none⟩ = some (.string an) ∧ wy.cell? ⟨sb, 2, none⟩ = some (.slice p fs.length cap)) ∧ (wy.cell? ⟨sb + 1, 0, none⟩ = some (.int .i64 bi) ∧ wy.cell? ⟨sb + 1, 1, none⟩ = some (.string bn) ∧ wy.cell? ⟨sb + 1, 2, none⟩ = some (.slice p2 gs.length cap2))) := hid (fun wy hk =>
    ⟨⟨cell_of (hk.get hb1 id) (by rfl), cell_of (hk.get hb1 id) (by rfl), cell_of (hk.get hb1 id) (by rfl)⟩, cell_of (hk.get hb2 id) (by rfl), cell_of (hk.get hb2 id) (by rfl), cell_of (hk.get hb2 id) (by rfl)⟩)
  clear hb1 hb2
  have HME : Hid (movL ⟨ai, an, fs⟩ ⟨bi, bn, gs⟩ = if mvRun gs fs (-1) false = true then [⟨7, ai, noN⟩] else []) := hid rfl
  go_wp2_with fail
  go_loopw [11, 12, 13, 14] (fun l m i _ wr => ∃ (k : Nat) (last : Int) (B : Bool), k ≤ fs.length ∧ l = .int .i64 last ∧ m = .bool B ∧ i = iV k ∧ mvRun gs fs (-1) false = mvRun gs (fs.drop k) last B ∧ Keep (fun _ => False) w3 wr) (fun _ _ i _ _ => fs.length + 1 - (intOf i).toNat)
  case atStart => exact ⟨0, -1, false, Nat.zero_le _, rfl, rfl, rfl, rfl, Keep.refl _ _⟩
  case round =>
    obtain ⟨k, last, B, hk, rfl, rfl, rfl, hmv, hkr⟩ := hrel
    have HKR := hid (HK3.out.trans hkr.drew)
    have HKR3 := hid hkr.drew
    have HMV := hid hmv
    have HKR_ := hid (HK3.out.trans hkr)
    have HO_ := hid (owns_keep HO0.out (fun q hq => hkr.block q (HO0.out.lt q hq).2 id))
    clear hkr hmv
    by_cases hlt : k < fs.length
    · obtain ⟨x, hxk⟩ : ∃ x, fs[k]? = some x := ⟨fs[k], by simp [hlt]⟩
      have HDN := hid (drop_next hxk)
      obtain ⟨b, off, rfl, hb, c0, c1, c2⟩ := FP.at (HD.out _ HKR.out).1 hxk
      have hin : (0 : Int) ≤ (k : Int) ∧ (k : Int) < (fs.length : Int) := ⟨by omega, by omega⟩
      clear hxk hb
      obtain ⟨fn, fk, fc⟩ := x
      simp only at c0 c1 c2
      obtain ⟨⟨s0, s1, s2⟩, s3, s4, s5⟩ := HW.out _ HKR.out
      obtain ⟨⟨_, _, t2⟩, _⟩ := HW.out _ HKR_.out
      have HST : Hid (mvRun gs (fs.drop k) last B = if nameI gs fn < 0 then mvRun gs (fs.drop (k + 1)) last B else mvRun gs (fs.drop (k + 1)) (nameI gs fn) (B || decide (nameI gs fn < last))) := hid (by rw [HDN.out]; rfl)
      go_upto_region 26 with fail
      refine Plan.wp_region_pl [(false, 0, []), (false, 1, []), (false, 2, []), (false, 3, []), (false, 4, []), (false, 5, []), (false, 6, []), (true, 7, []), (false, 8, [])] (by kernel_rfl) (by kernel_rfl) ?_
      iterate 7 (refine Plan.pl_st rfl ?_; go_big_quiet_step (fail); refine wpQuiet_nil ?_)
      refine Plan.pl_ac rfl ?_
      go_wp2_with fail
      refine (rf_field bi bn fn gs p2 cap2 _ hl2 (HD.out _ HKR.out).2).mono ?_
      rintro r w5 ⟨rfl, hk5⟩
      have HK5 := hid (HKR3.out.trans hk5)
      clear hk5 s0 s1 s2 s3 s4 s5 c0 c1 c2 t2
      generalize nameI gs fn = ni at *
      go_wp2
      refine Plan.plQ_mk Plan.chk_end ?_
      iterate 1 (refine Plan.pl_st rfl ?_; go_big_quiet_step (fail); refine wpQuiet_nil ?_)
      refine Plan.pl_end ?_
      by_cases hni : ni < 0
      · have g7 : decide (ni ≥ 0) = false := decide_eq_false (by omega)
        have g8 : decide (0 ≤ ni) = false := decide_eq_false (by omega)
        have HN : Hid (mvRun gs fs (-1) false = mvRun gs (fs.drop (k + 1)) last B) := hid (by rw [HMV.out, HST.out, if_pos hni])
        clear hni
        go_wp2
        go_roundw
        case rel => exact ⟨k + 1, last, B, by omega, rfl, rfl, by go_num, HN.out, HK5.out⟩
        case measure => simp [intOf]; omega
      · have g7 : decide (ni ≥ 0) = true := decide_eq_true (by omega)
        have g8 : decide (0 ≤ ni) = true := decide_eq_true (by omega)
        have HN : Hid (mvRun gs fs (-1) false = mvRun gs (fs.drop (k + 1)) ni (B || decide (ni < last))) := hid (by rw [HMV.out, HST.out, if_neg hni])
        clear hni
        cases B
        · go_wp2
          go_roundw
          case rel => exact ⟨k + 1, ni, decide (ni < last), by omega, rfl, rfl, by go_num, HN.out, HK5.out⟩
          case measure => simp [intOf]; omega
        · go_wp2
          go_roundw
          case rel => exact ⟨k + 1, ni, true, by omega, rfl, rfl, by go_num, HN.out, HK5.out⟩
          case measure => simp [intOf]; omega
    · obtain rfl : k = fs.length := by omega
      have g0 : decide ((fs.length : Int) < (fs.length : Int)) = false := decide_eq_false (by omega)
      have HB : Hid (mvRun gs fs (-1) false = B) := hid (by rw [HMV.out, List.drop_length]; rfl)
      obtain ⟨⟨s0, s1, s2⟩, s3, s4, s5⟩ := HW.out _ HKR_.out
      have HSZ := hid HKR_.out.size
      cases B
      · have HL : Hid (movL ⟨ai, an, fs⟩ ⟨bi, bn, gs⟩ = []) := hid (by rw [HME.out, HB.out]; rfl)
        go_wp2
        go_ret
        rw [HL.out]
        exact ⟨_, rfl, owns_mono HO_.out (show w.heap.size ≤ sb + 1 + 1 by omega), HK.out.trans HKR_.out⟩
      · have HL : Hid (movL ⟨ai, an, fs⟩ ⟨bi, bn, gs⟩ = [⟨7, ai, noN⟩]) := hid (by rw [HME.out, HB.out]; rfl)
        go_wp2_with (at_builtin; go_loud (refine wpList_append_rd rfl (.tmp 145) (.tmp 149) _ rfl (sb + 1 + 1) _ i0 _ 3 32 Tryd.underlying37 hi0 hz0 hz1 hz2 rfl (by decide) _ 0 [] (by rfl) (HO_.out.alloc _) _ 1 _ (by rfl) (rd_block (heap_alloc_new wr _) (by simp) (by simp [Value.oneCell'])) (by unfold maxLen; omega) (by omega) (by have := HSZ.out; have := HOB.out; simp; omega) ?_); go_loud (intro v' w6 hown6 hgrow6 hat6 hn6; have HO6 := hid hown6; have HK6 := hid ((HKR_.out.alloc _).grown hgrow6 (fun k hk => .inl (by have := (HO_.out.lt k hk).1; have := HOB.out; omega))); clear hown6 hgrow6 hat6 hn6))
        go_wp2
        go_ret
        rw [HL.out]
        refine ⟨_, rfl, ?_, HK.out.trans HK6.out⟩
        have h := owns_mono HO6.out (show w.heap.size ≤ sb + 1 + 1 by omega)
        simpa [ccl3, noN] using h
end Go.Proofs.YtdekdefjfaoclaaDoor
