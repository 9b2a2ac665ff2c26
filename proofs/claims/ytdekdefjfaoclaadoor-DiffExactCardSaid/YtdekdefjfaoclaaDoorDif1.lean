/- What is proved: what missing, retyped and common of the diff answer. -/
import Derived.Test.YtdekdefjfaoclaaDoorDifLaw
import Derived.Test.YtdekdefjfaoclaaDoorSchMore
import Derived.Test.YtdekdefjfaoclaaDoorBox
import Derived.Test.YtdekdefjfaoclaaDoorRegion
namespace Go.Proofs.YtdekdefjfaoclaaDoor
open Go.RowKit Go.Proofs.Heap Go.Proofs.Sch

theorem field_named2 (c : Cmp) (s : ByteArray) (p : Option Addr) (cap : Nat) (w : World) (hl : c.fs.length ≤ 4398046511104) (hf : FP w w.heap.size p c.fs) :
    Calls Tryd.prog 45 #[.agg #[.int .i64 c.id, .string c.name, .slice p c.fs.length cap], .string s] w fun r w' =>
      r = .returned (.tuple #[iV (nameI c.fs s).toNat, .bool (hasF c.fs s)]) ∧ Keep (fun _ => False) w w' := by
  refine (field_named c s p cap w hl hf).mono ?_
  rintro r w' ⟨⟨h, rfl⟩ | ⟨k, h, _, rfl⟩, hk⟩
  · refine ⟨?_, hk⟩
    unfold hasF nameI
    rw [h]; rfl
  · refine ⟨?_, hk⟩
    unfold hasF nameI
    rw [h, decide_eq_true (by omega), Int.toNat_natCast]

theorem info_chg : (Tryd.prog.info? 40).map (fun i => (i.zero, i.size, i.bytes)) = some (some (.agg #[.int .i64 0, .int .i64 0, .string ByteArray.empty]), 3, 32) := by kernel_rfl
theorem info_str : (Tryd.prog.info? 9).map (fun i => (i.zero, i.size, i.bytes)) = some (some (.string ByteArray.empty), 1, 16) := by kernel_rfl
theorem filt_next {α β : Type} (q : α → Bool) (g : α → β) {l : List α} {k : Nat} {x : α} (h : l[k]? = some x) : ((l.take (k + 1)).filter q).map g = ((l.take k).filter q).map g ++ (if q x = true then [g x] else []) := by
  rw [take_next h, List.filter_append, List.map_append, List.filter_cons, List.filter_nil]
  split <;> rfl
theorem filt_le {α β : Type} (q : α → Bool) (g : α → β) (l : List α) (k : Nat) : (((l.take k).filter q).map g).length ≤ k := by
  rw [List.length_map]
  exact Nat.le_trans (List.length_filter_le _ _) (by rw [List.length_take]; omega)

theorem missL_next {fs : List Fld} (gs : List Fld) (kind id : Int) {k : Nat} {f : Fld} (h : fs[k]? = some f) : missL (fs.take (k + 1)) gs kind id = missL (fs.take k) gs kind id ++ (if (!hasF gs f.name) = true then [⟨kind, id, f.name⟩] else []) := filt_next _ _ h
theorem missL_le (fs gs : List Fld) (kind id : Int) (k : Nat) : (missL (fs.take k) gs kind id).length ≤ k := filt_le _ _ _ _

set_option maxRecDepth 20000 in
set_option maxHeartbeats 4000000 in
theorem dif_missing (a b : Cmp) (kind : Int) (p : Option Addr) (cap : Nat) (p2 : Option Addr) (cap2 : Nat) (w : World) (hl : a.fs.length ≤ 65536) (hl2 : b.fs.length ≤ 65536) (hf : FP w w.heap.size p a.fs) (hf2 : FP w w.heap.size p2 b.fs) :
    Calls Tryd.prog 34 #[.agg #[.int .i64 a.id, .string a.name, .slice p a.fs.length cap], .agg #[.int .i64 b.id, .string b.name, .slice p2 b.fs.length cap2], .int .i64 kind] w fun r w' => ∃ v, r = .returned v ∧
      w'.ownsRow w.heap.size 40 3 v (missL a.fs b.fs kind a.id).length ((missL a.fs b.fs kind a.id).flatMap ccl3) ∧ Keep (fun _ => False) w w' := by
  obtain ⟨i0, hi0, hz0, hz1, hz2⟩ := info_parts' info_chg
  obtain ⟨ai, an, fs⟩ := a
  obtain ⟨bi, bn, gs⟩ := b
  simp only at hl hl2 hf hf2
  obtain ⟨w3, hw3, hb1, hb2, hs3, hk3⟩ := box2 w #[.int .i64 ai, .string an, .slice p fs.length cap] #[.int .i64 bi, .string bn, .slice p2 gs.length cap2] 46 46
  have HK := hid hk3
  have HD : Hid (∀ wy, Keep (fun _ => False) w3 wy → FP wy wy.heap.size p fs ∧ FP wy wy.heap.size p2 gs) := hid (fun wy hk =>
    ⟨FP.mono (FP.low hf (Low.keep0 (hk3.trans hk))) (hk3.trans hk).size, FP.mono (FP.low hf2 (Low.keep0 (hk3.trans hk))) (hk3.trans hk).size⟩)
  have HS3 := hid hk3.size
  clear hf hf2 hk3 hs3
  go_enter Tryd.func34, Tryd.ntmps34
  go_upto_region 2 with fail
  rw [← hw3]
  clear hw3
  generalize hsb : w.heap.size = sb at *
  have HW : Hid (∀ wy, Keep (fun _ => False) w3 wy → (wy.cell? ⟨sb, 0, none⟩ = some (.int .i64 ai) ∧ wy.cell? ⟨sb, 2, none⟩ = some (.slice p fs.length cap)) ∧ (wy.cell? ⟨sb + 1, 0, none⟩ = some (.int .i64 bi) ∧ wy.cell? ⟨sb + 1, 1, none⟩ = some (.string bn) ∧ wy.cell? ⟨sb + 1, 2, none⟩ = some (.slice p2 gs.length cap2))) := hid (fun wy hk =>
    ⟨⟨cell_of (hk.get hb1 id) (by rfl), cell_of (hk.get hb1 id) (by rfl)⟩, cell_of (hk.get hb2 id) (by rfl), cell_of (hk.get hb2 id) (by rfl), cell_of (hk.get hb2 id) (by rfl)⟩)
  clear hb1 hb2
  obtain ⟨⟨s0, s2⟩, s3, s4, s5⟩ := HW.out _ (Keep.refl _ w3)
  go_wp2_with fail
  clear s0 s2 s3 s4 s5
  go_loopw [7, 9, 10, 11, 15] (fun v _ _ _ i wr => ∃ k : Nat, k ≤ fs.length ∧ i = iV k ∧ wr.ownsRow w3.heap.size 40 3 v (missL (fs.take k) gs kind ai).length ((missL (fs.take k) gs kind ai).flatMap ccl3) ∧ Keep (fun _ => False) w3 wr) (fun _ _ _ _ i _ => fs.length + 1 - (intOf i).toNat)
  case atStart => exact ⟨0, Nat.zero_le _, rfl, World.ownsRow_nil _ _ _ _, Keep.refl _ _⟩
  case round =>
    obtain ⟨k, hk, rfl, how, hkr⟩ := hrel
    obtain ⟨vp, vc, rfl⟩ := owns_val how
    have HO := hid how; have HKR := hid hkr
    clear how hkr
    by_cases hlt : k < fs.length
    · obtain ⟨x, hxk⟩ : ∃ x, fs[k]? = some x := ⟨fs[k], by simp [hlt]⟩
      have HNX := hid (missL_next gs kind ai hxk)
      have HLE := hid (missL_le fs gs kind ai k)
      obtain ⟨b, off, rfl, hb, c0, c1, c2⟩ := FP.at (HD.out _ HKR.out).1 hxk
      have hin : (0 : Int) ≤ (k : Int) ∧ (k : Int) < (fs.length : Int) := ⟨by omega, by omega⟩
      clear hxk hb
      obtain ⟨fn, fk, fc⟩ := x
      simp only at c0 c1 c2
      obtain ⟨w4, hw4, hc4, hs4, hk4⟩ := box1 wr #[.string fn, .int .i64 fk, .int .i64 fc] 53
      have HK4 := hid (HKR.out.trans hk4)
      have HO4 := hid (owns_keep HO.out (fun q hq => hk4.block q (HO.out.lt q hq).2 id))
      have HC4 := hid hc4
      clear hk4 hs4 hc4
      go_upto_region 5 with fail
      rw [← hw4]
      clear hw4 c0 c1 c2
      generalize wr.heap.size = fb at *
      have f0 : w4.cell? ⟨fb, 0, none⟩ = some (.string fn) := cell_of HC4.out (by rfl)
      obtain ⟨_, s3, s4, s5⟩ := HW.out _ HK4.out
      go_wp2_with fail
      refine (field_named2 ⟨bi, bn, gs⟩ fn p2 cap2 _ (by simp only; omega) (HD.out _ HK4.out).2).mono ?_
      rintro r w5 ⟨rfl, hk5⟩
      have HK5 := hid (HK4.out.trans hk5)
      have HO5 := hid (owns_keep HO4.out (fun q hq => hk5.block q (HO4.out.lt q hq).2 id))
      have HC5 := hid (hk5.get HC4.out id)
      clear hk5 f0 s3 s4 s5
      have f0 : w5.cell? ⟨fb, 0, none⟩ = some (.string fn) := cell_of HC5.out (by rfl)
      obtain ⟨⟨s0, _⟩, _⟩ := HW.out _ HK5.out
      have HSZ := hid HK5.out.size
      cases hq : hasF gs fn
      rotate_left
      · have G : Hid (missL (fs.take (k + 1)) gs kind ai = (missL (fs.take k) gs kind ai)) := hid (by rw [HNX.out, if_neg (by simp [hq]), List.append_nil])
        clear hq
        go_wp2
        go_roundw
        case rel => exact ⟨k + 1, by omega, by go_num, by rw [G.out]; exact HO5.out, HK5.out⟩
        case measure => simp [intOf]; omega
      · have G : Hid (missL (fs.take (k + 1)) gs kind ai = (missL (fs.take k) gs kind ai) ++ [⟨kind, ai, fn⟩]) := hid (by rw [HNX.out, if_pos (by simp [hq])])
        clear hq
        generalize missL (fs.take k) gs kind ai = us at *
        go_wp2_with (at_builtin; go_loud (refine wpList_append_rd rfl (.tmp 28) (.tmp 35) _ rfl w3.heap.size _ i0 _ 3 32 Tryd.underlying28 hi0 hz0 hz1 hz2 rfl (by decide) _ us.length _ (by rfl) (HO5.out.alloc _) _ 1 _ (by rfl) (rd_block (heap_alloc_new w5 _) (by simp) (by simp [Value.oneCell'])) (by unfold maxLen; have := HLE.out; omega) (by have := HLE.out; omega) (by have := HSZ.out; simp; omega) ?_); go_loud (intro v' w6 hown6 hgrow6 hat6 hn6; obtain ⟨vq, vd, rfl⟩ := owns_val hown6; have HO6 := hid hown6; have HK6 := hid ((HK5.out.alloc _).grown hgrow6 (fun k hk => .inl (HO5.out.lt k hk).1)); clear hown6 hgrow6 hat6 hn6))
        go_wp2
        go_roundw
        case rel => exact ⟨k + 1, by omega, by go_num, by rw [G.out]; have h := HO6.out; simpa [ccl3] using h, HK6.out⟩
        case measure => simp [intOf]; omega
    · obtain rfl : k = fs.length := by omega
      have g0 : decide ((fs.length : Int) < (fs.length : Int)) = false := decide_eq_false (by omega)
      rw [List.take_length] at *
      go_wp2
      go_ret
      exact ⟨_, rfl, owns_mono HO.out (by have := HS3.out; omega), HK.out.trans HKR.out⟩
end Go.Proofs.YtdekdefjfaoclaaDoor
