/- What is proved: what Kept of the diff answers. -/
import Derived.Test.YtdekdefjfaoclaaDoorDif3
namespace Go.Proofs.YtdekdefjfaoclaaDoor
open Go.RowKit Go.Proofs.Heap Go.Proofs.Sch

def keptE (va : Int) (ca : List Cmp) (vb : Int) (cb : List Cmp) : List Int := if diffE va ca vb cb = 0 then keptL ca cb else []
abbrev niV (n : Int) : Value := .int .i64 n
theorem keptL_next {ca : List Cmp} (cb : List Cmp) {k : Nat} {c : Cmp} (h : ca[k]? = some c) : keptL (ca.take (k + 1)) cb = keptL (ca.take k) cb ++ (if inC cb c.id = true then [c.id] else []) := filt_next _ _ h
theorem keptL_le (ca cb : List Cmp) (k : Nat) : (keptL (ca.take k) cb).length ≤ k := filt_le _ _ _ _

set_option maxRecDepth 20000 in
set_option maxHeartbeats 8000000 in
theorem dif_kept (va : Int) (ca : List Cmp) (p : Option Addr) (z : Nat) (vb : Int) (cb : List Cmp) (p2 : Option Addr) (z2 : Nat) (w : World) (ha : Mid ca) (hb : Mid cb) (hca : CP w w.heap.size p ca) (hcb : CP w w.heap.size p2 cb) :
    Calls Tryd.prog 12 #[.agg #[.int .i64 va, .slice p ca.length z], .agg #[.int .i64 vb, .slice p2 cb.length z2]] w fun r w' => ∃ v, r = .returned v ∧
      w'.ownsRow w.heap.size 3 1 v (keptE va ca vb cb).length ((keptE va ca vb cb).map niV) ∧ Keep (fun _ => False) w w' := by
  obtain ⟨i0, hi0, hz0, hz1, hz2⟩ := info_parts' info_int
  obtain ⟨w3, hw3, hb1, hb2, hs3, hk3⟩ := box2 w #[.int .i64 va, .slice p ca.length z] #[.int .i64 vb, .slice p2 cb.length z2] 24 24
  have HK := hid hk3
  have HD : Hid (∀ wy, Keep (fun _ => False) w3 wy → CP wy wy.heap.size p ca ∧ CP wy wy.heap.size p2 cb) := hid (fun wy hk =>
    ⟨CP.mono (CP.low hca (Low.keep0 (hk3.trans hk))) (hk3.trans hk).size, CP.mono (CP.low hcb (Low.keep0 (hk3.trans hk))) (hk3.trans hk).size⟩)
  have HA := hid ha; have HB := hid hb
  have HS3 := hid hk3.size
  clear hca hcb hk3 hs3 ha hb
  go_enter Tryd.func12, Tryd.ntmps12
  go_upto_region 1 with fail
  rw [← hw3]
  clear hw3
  generalize hsb : w.heap.size = sb at *
  have HW : Hid (∀ wy, Keep (fun _ => False) w3 wy → (wy.cell? ⟨sb, 0, none⟩ = some (.int .i64 va) ∧ wy.cell? ⟨sb, 1, none⟩ = some (.slice p ca.length z)) ∧ (wy.cell? ⟨sb + 1, 0, none⟩ = some (.int .i64 vb) ∧ wy.cell? ⟨sb + 1, 1, none⟩ = some (.slice p2 cb.length z2))) := hid (fun wy hk =>
    ⟨⟨cell_of (hk.get hb1 id) (by rfl), cell_of (hk.get hb1 id) (by rfl)⟩, ⟨cell_of (hk.get hb2 id) (by rfl), cell_of (hk.get hb2 id) (by rfl)⟩⟩)
  clear hb1 hb2
  obtain ⟨⟨s0, s1⟩, s2, s3⟩ := HW.out _ (Keep.refl _ w3)
  go_wp2_with fail
  refine (dif_check va ca p z vb cb p2 z2 _ HA.out.small HB.out.small (HD.out _ (Keep.refl _ w3)).1 (HD.out _ (Keep.refl _ w3)).2).mono ?_
  rintro r w4 ⟨rfl, hk4⟩
  have HK4 := hid hk4
  clear hk4 s0 s1 s2 s3
  by_cases hck : diffE va ca vb cb = 0
  rotate_left
  · obtain ⟨e, he⟩ : ∃ e, diffE va ca vb cb = e := ⟨_, rfl⟩
    rw [he] at hck ⊢
    have HE := hid he
    clear he
    have g1 : ((e : Int) != 0) = true := by simp only [bne, beq_eq_false_iff_ne.2 (show (e : Int) ≠ 0 by omega)]; rfl
    have g2 : (e != 0) = true := by simp only [bne, beq_eq_false_iff_ne.2 hck]; rfl
    have g3 : ((e : Int) == 0) = false := beq_eq_false_iff_ne.2 (by omega)
    have g4 : (e == 0) = false := beq_eq_false_iff_ne.2 hck
    clear hck
    go_wp2
    go_ret
    rw [show keptE va ca vb cb = [] from if_neg (by rw [HE.out]; simpa using g4)]
    exact ⟨_, rfl, World.ownsRow_nil _ _ _ _, HK.out.trans HK4.out⟩
  rw [hck]
  have HE := hid hck
  clear hck
  obtain ⟨⟨s0, s1⟩, s2, s3⟩ := HW.out _ HK4.out
  go_wp2_with fail
  refine (sch_ids va ca p z _ HA.out.small.1 (HD.out _ HK4.out).1).mono ?_
  rintro r w5 ⟨ip, ic, rfl, hio, hk5⟩
  have HK5 := hid (HK4.out.trans hk5)
  have HIO := hid hio
  clear hio hk5 s0 s1 s2 s3
  go_wp2_with fail
  go_loopw [5, 7, 8, 9, 17] (fun v _ _ _ i wr => ∃ k : Nat, k ≤ ca.length ∧ i = iV k ∧ wr.ownsRow w5.heap.size 3 1 v (keptL (ca.take k) cb).length ((keptL (ca.take k) cb).map niV) ∧ Keep (fun _ => False) w5 wr) (fun _ _ _ _ i _ => ca.length + 1 - (intOf i).toNat)
  case atStart => exact ⟨0, Nat.zero_le _, rfl, World.ownsRow_nil _ _ _ _, Keep.refl _ _⟩
  case round =>
    obtain ⟨k, hk, rfl, how, hkr⟩ := hrel
    obtain ⟨vp, vc, rfl⟩ := owns_val how
    have HO := hid how; have HKR := hid hkr
    clear how hkr
    by_cases hlt : k < ca.length
    · obtain ⟨c, hck⟩ : ∃ c, ca[k]? = some c := ⟨ca[k], by simp [hlt]⟩
      have HNX := hid (keptL_next cb hck)
      have HLE := hid (keptL_le ca cb k)
      obtain ⟨g, rfl⟩ := owns_some HIO.out (by omega)
      have hio := owns_keep HIO.out (fun q hq => HKR.out.block q (HIO.out.lt q hq).2 id)
      have c0 : wr.cell? ⟨g, k, none⟩ = some (.int .i64 c.id) := (owns_cell hio hlt).trans (by rw [List.getElem?_map, hck]; rfl)
      have hin : (0 : Int) ≤ (k : Int) ∧ (k : Int) < (ca.length : Int) := ⟨by omega, by omega⟩
      have hml := HA.out.1
      clear hio hck
      obtain ⟨ci, cn, fs⟩ := c
      simp only at c0
      obtain ⟨b2, hb2⟩ : ∃ b2, inC cb ci = b2 := ⟨_, rfl⟩
      have HKW := hid (HK5.out.trans HKR.out)
      obtain ⟨_, s2, s3⟩ := HW.out _ HKW.out
      go_wp2_with fail
      refine (find_c ci vb cb p2 z2 _ HB.out.small (HD.out _ HKW.out).2).mono ?_
      rintro r x7 ⟨q7, y7, rfl, _, hk7⟩
      have HX7 := hid (HKR.out.trans hk7)
      have HO7 := hid (owns_keep HO.out (fun q hq => hk7.block q (HO.out.lt q hq).2 id))
      generalize foundC cb ci = cB at *
      obtain ⟨bi, bn, gs⟩ := cB
      rw [show cb.any (fun c => decide (c.id = ci)) = b2 from hb2]
      have HNX2 : Hid (keptL (ca.take (k + 1)) cb = keptL (ca.take k) cb ++ (if b2 = true then [ci] else [])) := hid (by rw [HNX.out, ← hb2])
      obtain ⟨w8, hw8, hc8, hs8, hk8⟩ := box1 x7 #[.int .i64 bi, .string bn, .slice q7 gs.length y7] 46
      have HK8 := hid (HX7.out.trans hk8)
      have HO8 := hid (owns_keep HO7.out (fun q hq => hk8.block q (HO7.out.lt q hq).2 id))
      clear hk7 hc8 hs8 hk8 s2 s3 c0 hb2
      go_upto_region 8 with fail
      rw [← hw8]
      clear hw8
      generalize x7.heap.size = xb at *
      generalize keptL (ca.take k) cb = us at *
      have HSZ := hid HK8.out.size
      cases b2
      · have G : Hid (keptL (ca.take (k + 1)) cb = us) := hid (by rw [HNX2.out, if_neg (by simp), List.append_nil])
        go_wp2
        go_roundw
        case rel => exact ⟨k + 1, by omega, by go_num, by rw [G.out]; exact HO8.out, HK8.out⟩
        case measure => simp [intOf]; omega
      · have G : Hid (keptL (ca.take (k + 1)) cb = us ++ [ci]) := hid (by rw [HNX2.out, if_pos rfl])
        go_wp2_with (at_builtin; go_loud (refine wpList_append_rd rfl (.tmp 28) (.tmp 30) _ rfl w5.heap.size _ i0 _ 1 8 Tryd.underlying35 hi0 hz0 hz1 hz2 rfl (by decide) _ us.length _ (by rfl) (HO8.out.alloc _) _ 1 _ (by rfl) (rd_block (heap_alloc_new w8 _) (by simp) (by simp [Value.oneCell'])) (by unfold maxLen; have := HLE.out; omega) (by have := HLE.out; omega) (by have := HSZ.out; simp; omega) ?_); go_loud (intro v' w6 hown6 hgrow6 hat6 hn6; obtain ⟨vq, vd, rfl⟩ := owns_val hown6; have HO6 := hid hown6; have HK6 := hid ((HK8.out.alloc _).grown hgrow6 (fun k hk => .inl (HO8.out.lt k hk).1)); clear hown6 hgrow6 hat6 hn6))
        go_wp2
        go_roundw
        case rel => exact ⟨k + 1, by omega, by go_num, by rw [G.out]; have h := HO6.out; simpa using h, HK6.out⟩
        case measure => simp [intOf]; omega
    · obtain rfl : k = ca.length := by omega
      have g0 : decide ((ca.length : Int) < (ca.length : Int)) = false := decide_eq_false (by omega)
      rw [List.take_length] at *
      go_wp2
      go_ret
      rw [show keptE va ca vb cb = keptL ca cb from if_pos HE.out]
      exact ⟨_, rfl, owns_mono HO.out (by have := HS3.out; have := HK5.out.size; omega), HK.out.trans (HK5.out.trans HKR.out)⟩
end Go.Proofs.YtdekdefjfaoclaaDoor
