/- What is proved: systems of the document's form are compared as a whole. -/
import Derived.Test.YtbnhdmalkmcalaaDoorMCrEq
import Derived.Test.YtbnhdmalkmcalaaDoorMCrBack
import Derived.Test.YtbnhdmalkmcalaaDoorMCr1
import Derived.Test.YtbnhdmalkmcalaaDoorRows
import Derived.LaidSub
import Derived.Lib.LaidTab
import Derived.Stop.Joined
import Derived.LaidMore
namespace Go.Proofs.YtbnhdmalkmcalaaDoor
open Go.RowKit Go.Proofs.Heap Go.Proofs.Sch

theorem eq_rop (x y : VOp) (w : World) : (Op.equalIn 10000 83 (OV x) (OV y)).run Tryd.prog w = .ok (decide (x = y)) w := by
  have u3 := Tryd.underlying3
  have a3 := Tryd.isAgg3
  have z3 := Tryd.sizeOf3
  rw [show (10000 : Nat) = 9999 + 1 from rfl, Op.equalIn]
  simp only [Sem.run_bind, run_underlying Tryd.underlying83, Result.andThen_ok]
  simp only [Std.Legacy.Range.forIn_eq_forIn_range', Std.Legacy.Range.size, Nat.sub_zero, Nat.add_sub_cancel, Nat.div_one, List.range'_succ, List.range'_zero, List.forIn_cons, List.forIn_nil]
  go_simp
  obtain ⟨c1, a1, b1, d1, k1⟩ := x
  obtain ⟨c2, a2, b2, d2, k2⟩ := y
  simp only [VOp.mk.injEq]
  by_cases e1 : c1 = c2 <;> by_cases e2 : a1 = a2 <;> by_cases e3 : b1 = b2 <;> by_cases e4 : d1 = d2 <;> by_cases e5 : k1 = k2 <;> simp [e1, e2, e3, e4, e5]
theorem neq_rop (x y : VOp) (w : World) : (binOp .neq 83 (OV x) (OV y)).run Tryd.prog w = .ok (.bool (!decide (x = y))) w := by
  rw [run_neq_struct, eq_rop]; rfl
theorem neq_rop1 (x : VOp) (w : World) : (binOp .neq 83 (OV x) (OV x)).run Tryd.prog w = .ok (.bool false) w := by rw [neq_rop]; simp
theorem neq_rop2 {x y : VOp} (h : x ≠ y) (w : World) : (binOp .neq 83 (OV x) (OV y)).run Tryd.prog w = .ok (.bool true) w := by rw [neq_rop, decide_eq_false h]; rfl

set_option maxRecDepth 20000 in
set_option maxHeartbeats 16000000 in
theorem cr_same (a b : VSys) (pa : Option Addr) (ca : Nat) (pc : Option Addr) (cc : Nat) (pa2 : Option Addr) (ca2 : Nat) (pc2 : Option Addr) (cc2 : Nat) (w : World) (hl1 : a.after.length ≤ 65536) (hl2 : a.code.length ≤ 65536) (ha : TP w w.heap.size pa a.after) (hc : VP w w.heap.size pc a.code) (ha2 : TP w w.heap.size pa2 b.after) (hc2 : VP w w.heap.size pc2 b.code) :
    Calls Tryd.prog 21 #[SysV a pa ca pc cc, SysV b pa2 ca2 pc2 cc2] w fun r w' => r = .returned (.bool (eqY a b)) ∧ Keep (fun _ => False) w w' := by
  have HEA := hid (fun (wy : World) (hk : Keep (fun _ => False) w wy) => cr_texts a.after b.after pa pa2 ca ca2 wy hl1 (TP.mono (TP.low ha (Low.keep0 hk)) hk.size) (TP.mono (TP.low ha2 (Low.keep0 hk)) hk.size))
  have HX := hid (fun (wy : World) (hk : Keep (fun _ => False) w wy) => VP.low hc (Low.keep0 hk))
  have HY := hid (fun (wy : World) (hk : Keep (fun _ => False) w wy) => VP.low hc2 (Low.keep0 hk))
  have HR : Hid (eqY a b = (a.name.toList == b.name.toList && (a.stage == b.stage && (decide (a.after = b.after) && (a.all == b.all && (a.none == b.none && decide (a.code = b.code))))))) := hid rfl
  generalize eqY a b = R at *
  obtain ⟨w1, hw1, hb1, hb2, hs1, hk1⟩ := box2 w (SysC a pa ca pc cc) (SysC b pa2 ca2 pc2 cc2) 32 32
  have HK1 := hid hk1
  have HB1 := hid hb1; have HB2 := hid hb2
  have HCL := hid hl2
  clear hb1 hb2 hs1 hk1 hl1 hl2 ha hc ha2 hc2
  go_enter Tryd.func21, Tryd.ntmps21
  go_upto_region 1 with fail
  rw [← hw1]
  clear hw1
  generalize w.heap.size = sb at *
  have c0 := cell_of HB1.out (i := 0) (by rfl)
  have c1 := cell_of HB1.out (i := 1) (by rfl)
  have c2 := cell_of HB1.out (i := 2) (by rfl)
  have d0 := cell_of HB2.out (i := 0) (by rfl)
  have d1 := cell_of HB2.out (i := 1) (by rfl)
  have d2 := cell_of HB2.out (i := 2) (by rfl)
  cases e1 : (a.name.toList == b.name.toList)
  · have G : Hid (R = false) := hid (by rw [HR.out, e1]; rfl)
    have e1' : (!a.name.toList == b.name.toList) = true := by rw [e1]; rfl
    go_wp2
    go_ret
    exact ⟨by rw [G.out]; rfl, HK1.out⟩
  have e1' : (!a.name.toList == b.name.toList) = false := by rw [e1]; rfl
  cases e2 : (a.stage == b.stage)
  · have G : Hid (R = false) := hid (by rw [HR.out, e1, e2]; rfl)
    have e2' : (a.stage != b.stage) = true := by rw [bne, e2]; rfl
    go_wp2
    go_ret
    exact ⟨by rw [G.out]; rfl, HK1.out⟩
  have e2' : (a.stage != b.stage) = false := by rw [bne, e2]; rfl
  have HR2 : Hid (R = (decide (a.after = b.after) && (a.all == b.all && (a.none == b.none && decide (a.code = b.code))))) := hid (by rw [HR.out, e1, e2]; rfl)
  clear HR
  go_wp2_with fail
  refine (HEA.out _ HK1.out).mono ?_
  rintro r w2 ⟨rfl, hk2⟩
  have HK2 := hid (HK1.out.trans hk2)
  have HC1 := hid (hk2.get HB1.out id); have HC2 := hid (hk2.get HB2.out id)
  clear hk2 c0 c1 c2 d0 d1 d2
  have c3 := cell_of HC1.out (i := 3) (by rfl)
  have c4 := cell_of HC1.out (i := 4) (by rfl)
  have c5 := cell_of HC1.out (i := 5) (by rfl)
  have d3 := cell_of HC2.out (i := 3) (by rfl)
  have d4 := cell_of HC2.out (i := 4) (by rfl)
  have d5 := cell_of HC2.out (i := 5) (by rfl)
  cases e3 : decide (a.after = b.after)
  · have G : Hid (R = false) := hid (by rw [HR2.out, e3]; rfl)
    clear e3
    go_wp2
    go_ret
    exact ⟨by rw [G.out]; rfl, HK2.out⟩
  cases e4 : (a.all == b.all)
  · have G : Hid (R = false) := hid (by rw [HR2.out, e3, e4]; rfl)
    have e4' : ((a.all : Int) != (b.all : Int)) = true := by rw [beq_eq_false_iff_ne] at e4; rw [bne_iff_ne]; omega
    have e4'' : (a.all != b.all) = true := by rw [bne, e4]; rfl
    clear e3
    go_wp2
    go_ret
    exact ⟨by rw [G.out]; rfl, HK2.out⟩
  have e4' : ((a.all : Int) != (b.all : Int)) = false := by rw [beq_iff_eq] at e4; rw [e4]; simp
  have e4'' : (a.all != b.all) = false := by rw [bne, e4]; rfl
  cases e5 : (a.none == b.none)
  · have G : Hid (R = false) := hid (by rw [HR2.out, e3, e4, e5]; rfl)
    have e5' : ((a.none : Int) != (b.none : Int)) = true := by rw [beq_eq_false_iff_ne] at e5; rw [bne_iff_ne]; omega
    have e5'' : (a.none != b.none) = true := by rw [bne, e5]; rfl
    clear e3
    go_wp2
    go_ret
    exact ⟨by rw [G.out]; rfl, HK2.out⟩
  have e5' : ((a.none : Int) != (b.none : Int)) = false := by rw [beq_iff_eq] at e5; rw [e5]; simp
  have e5'' : (a.none != b.none) = false := by rw [bne, e5]; rfl
  have HR3 : Hid (R = decide (a.code = b.code)) := hid (by rw [HR2.out, e3, e4, e5]; rfl)
  clear e3 HR2
  by_cases hn : a.code.length = b.code.length
  rotate_left
  · have G : Hid (R = false) := hid (by rw [HR3.out]; exact decide_eq_false (fun h => hn (by rw [h])))
    have g1 : ((a.code.length : Int) != (b.code.length : Int)) = true := by rw [bne_iff_ne]; omega
    have g2 : (a.code.length != b.code.length) = true := by rw [bne_iff_ne]; exact hn
    clear hn
    go_wp2
    go_ret
    exact ⟨by rw [G.out]; rfl, HK2.out⟩
  have HN := hid hn
  have g1 : ((a.code.length : Int) != (b.code.length : Int)) = false := by rw [hn]; simp
  have g2 : (a.code.length != b.code.length) = false := by rw [hn]; simp
  obtain ⟨xs, hxs⟩ : ∃ xs, a.code = xs := ⟨_, rfl⟩
  obtain ⟨ys, hys⟩ : ∃ ys, b.code = ys := ⟨_, rfl⟩
  have HQT : Hid (xs = ys → R = true) := hid (fun h => by rw [HR3.out, hxs, hys]; exact decide_eq_true h)
  have HQF : Hid (xs ≠ ys → R = false) := hid (fun h => by rw [HR3.out, hxs, hys]; exact decide_eq_false h)
  have HNX0 : Hid (a.code.length = xs.length ∧ b.code.length = ys.length ∧ xs.length = ys.length) := hid ⟨by rw [hxs], by rw [hys], by rw [← hxs, ← hys]; exact hn⟩
  have HXX : Hid (∀ wy, Keep (fun _ => False) w wy → VP wy sb pc xs) := hid (fun wy hk => by rw [← hxs]; exact HX.out wy hk)
  have HYY : Hid (∀ wy, Keep (fun _ => False) w wy → VP wy sb pc2 ys) := hid (fun wy hk => by rw [← hys]; exact HY.out wy hk)
  clear hn hxs hys HX HY HR3
  go_wp2_with fail
  clear c3 c4 c5 d3 d4 d5 e1 e1' e2 e2' e4 e4' e4'' e5 e5' e5'' g1 g2
  obtain ⟨n, hn⟩ : ∃ n, a.code.length = n := ⟨_, rfl⟩
  obtain ⟨n2, hn2⟩ : ∃ n2, b.code.length = n2 := ⟨_, rfl⟩
  have HNN : Hid (n = xs.length ∧ n2 = xs.length ∧ ys.length = xs.length) := hid ⟨by rw [← hn]; exact HNX0.out.1, by rw [← hn2, HNX0.out.2.1, HNX0.out.2.2], HNX0.out.2.2.symm⟩
  have HP5 : Hid (∀ wy, Keep (fun _ => False) w2 wy → wy.cell? ⟨sb, 5, none⟩ = some (.slice pc n cc) ∧ wy.cell? ⟨sb + 1, 5, none⟩ = some (.slice pc2 n2 cc2)) := hid (fun wy hk => by
    rw [← hn, ← hn2]
    exact ⟨cell_of (hk.get HC1.out id) (by rfl), cell_of (hk.get HC2.out id) (by rfl)⟩)
  have HCL2 : Hid (n ≤ 65536) := hid (by rw [← hn]; exact HCL.out)
  have hcl := HCL2.out
  rw [hn]
  clear hn hn2
  go_loopw [5] (fun i wr => ∃ k : Nat, k ≤ n ∧ i = iV k ∧ (∀ j, j < k → xs[j]? = ys[j]?) ∧ Keep (fun _ => False) w2 wr) (fun i _ => n + 1 - (RowKit.intOf i).toNat)
  case atStart => exact ⟨0, Nat.zero_le _, rfl, fun j hj => by omega, Keep.refl _ _⟩
  case round =>
    obtain ⟨k, hk, rfl, hal, hkr⟩ := hrel
    have HAL := hid hal; have HKR := hid hkr
    have HKW := hid (HK2.out.trans hkr)
    have c5 : wr.cell? ⟨sb, 5, none⟩ = some (.slice pc n cc) := (HP5.out wr hkr).1
    clear hal hkr
    by_cases hlt : k < n
    · obtain ⟨x, hxk⟩ : ∃ x, xs[k]? = some x := ⟨xs[k]'(by rw [← HNN.out.1]; exact hlt), by simp [← HNN.out.1, hlt]⟩
      obtain ⟨y, hyk⟩ : ∃ y, ys[k]? = some y := ⟨ys[k]'(by rw [HNN.out.2.2, ← HNN.out.1]; exact hlt), by simp [HNN.out.2.2, ← HNN.out.1, hlt]⟩
      obtain ⟨b1, o1, rfl, hb1, x0, x1, x2, x3, x4⟩ := VP.at (HXX.out wr.drew HKW.out.drew) hxk
      obtain ⟨b2, o2, rfl, hb2, y0, y1, y2, y3, y4⟩ := VP.at (HYY.out wr.drew HKW.out.drew) hyk
      have hin : (0 : Int) ≤ (k : Int) ∧ (k : Int) < (n : Int) := ⟨by omega, by omega⟩
      have hin2 : (0 : Int) ≤ (k : Int) ∧ (k : Int) < (n2 : Int) := ⟨by omega, by have h1 := HNN.out.1; have h2 := HNN.out.2.1; omega⟩
      have HNX : Hid (x = y → ∀ j, j < k + 1 → xs[j]? = ys[j]?) := hid (fun h j hj => by
        by_cases e : j = k
        · subst e; rw [hxk, hyk, h]
        · exact HAL.out j (by omega))
      have HNE : Hid (x ≠ y → R = false) := hid (fun h => HQF.out (fun e => h (by rw [e, hyk] at hxk; exact (Option.some.inj hxk).symm)))
      clear hxk hyk
      go_upto_region 6 with fail
      have f5 : wr.drew.cell? ⟨sb, 5, none⟩ = some (.slice (some ⟨b1, o1, none⟩) n cc) := (HP5.out wr.drew HKR.out.drew).1
      have g5 : wr.drew.cell? ⟨sb + 1, 5, none⟩ = some (.slice (some ⟨b2, o2, none⟩) n2 cc2) := (HP5.out wr.drew HKR.out.drew).2
      clear c5
      by_cases hxy : x = y
      · have G := hid (HNX.out hxy)
        subst hxy
        have hcmp := neq_rop1 x wr.drew
        refine Plan.wp_region_reads (by as_aux_lemma => kernel_rfl) (by as_aux_lemma => kernel_rfl) ?_
        iterate 10 (go_big_quiet_step (fail))
        refine quiet_neqC rfl _ _ _ _ _ _ _ rfl rfl rfl (by kernel_rfl) hcmp ?_
        refine wpQuiet_nil ?_
        clear x0 x1 x2 x3 x4 y0 y1 y2 y3 y4 hcmp f5 g5
        go_wp2
        go_roundw
        case rel => exact ⟨k + 1, by omega, by go_num, G.out, HKR.out.drew⟩
        case measure => simp [RowKit.intOf]; omega
      · have G := hid (HNE.out hxy)
        have hcmp := neq_rop2 hxy wr.drew
        clear hxy
        refine Plan.wp_region_reads (by as_aux_lemma => kernel_rfl) (by as_aux_lemma => kernel_rfl) ?_
        iterate 10 (go_big_quiet_step (fail))
        refine quiet_neqC rfl _ _ _ _ _ _ _ rfl rfl rfl (by kernel_rfl) hcmp ?_
        refine wpQuiet_nil ?_
        clear x0 x1 x2 x3 x4 y0 y1 y2 y3 y4 hcmp f5 g5
        go_wp2
        go_ret
        exact ⟨by rw [G.out]; rfl, HKW.out.drew⟩
    · obtain rfl : k = n := by omega
      have G : Hid (R = true) := hid (HQT.out (List.ext_getElem? fun j => by
        by_cases h : j < k
        · exact HAL.out j h
        · rw [List.getElem?_eq_none (by rw [← HNN.out.1]; omega), List.getElem?_eq_none (by rw [HNN.out.2.2, ← HNN.out.1]; omega)]))
      go_wp2
      go_ret
      exact ⟨by rw [G.out]; rfl, HKW.out⟩
end Go.Proofs.YtbnhdmalkmcalaaDoor

namespace Go.Proofs.YtbnhdmalkmcalaaDoor
open Go.RowKit Go.Proofs.Heap Go.Proofs.Sch

theorem ne_beq {n m : Int} (h : n ≠ m) : (n == m) = false := beq_eq_false_iff_ne.2 h

set_option maxRecDepth 20000 in
set_option maxHeartbeats 4000000 in
theorem r_takes (n : Int) (w : World) : Calls Tryd.prog 24 #[.int .i64 n] w fun r w' => r = .returned (.int .i64 (takesV n : Int)) ∧ w = w' := by
  by_cases h : n = 4 ∨ n = 5 ∨ n = 6 ∨ n = 7 ∨ n = 8 ∨ n = 10 ∨ n = 11 ∨ n = 15 ∨ n = 3 ∨ n = 9 ∨ n = 12 ∨ n = 13 ∨ n = 14 ∨ n = 17
  · rcases h with rfl | rfl | rfl | rfl | rfl | rfl | rfl | rfl | rfl | rfl | rfl | rfl | rfl | rfl
    all_goals
      go_enter Tryd.func24, Tryd.ntmps24
      go_wp2
      go_ret
      exact ⟨rfl, rfl⟩
  · have H : Hid (takesV n = 0) := hid (by unfold takesV; rw [if_neg (by omega), if_neg (by omega)])
    have g1 := ne_beq (n := n) (m := 4) (by omega)
    have g2 := ne_beq (n := n) (m := 5) (by omega)
    have g3 := ne_beq (n := n) (m := 6) (by omega)
    have g4 := ne_beq (n := n) (m := 7) (by omega)
    have g5 := ne_beq (n := n) (m := 8) (by omega)
    have g6 := ne_beq (n := n) (m := 10) (by omega)
    have g7 := ne_beq (n := n) (m := 11) (by omega)
    have g8 := ne_beq (n := n) (m := 15) (by omega)
    have g9 := ne_beq (n := n) (m := 3) (by omega)
    have g10 := ne_beq (n := n) (m := 9) (by omega)
    have g11 := ne_beq (n := n) (m := 12) (by omega)
    have g12 := ne_beq (n := n) (m := 13) (by omega)
    have g13 := ne_beq (n := n) (m := 14) (by omega)
    have g14 := ne_beq (n := n) (m := 17) (by omega)
    rw [H.out]
    clear h
    go_enter Tryd.func24, Tryd.ntmps24
    go_wp2
    go_ret
    exact ⟨rfl, rfl⟩

set_option maxRecDepth 20000 in
set_option maxHeartbeats 4000000 in
theorem r_puts (n : Int) (w : World) : Calls Tryd.prog 26 #[.int .i64 n] w fun r w' => r = .returned (.int .i64 (putsV n : Int)) ∧ w = w' := by
  by_cases h : n = 13 ∨ n = 15 ∨ n = 1 ∨ n = 2 ∨ n = 4 ∨ n = 5 ∨ n = 6 ∨ n = 7 ∨ n = 8 ∨ n = 9 ∨ n = 10 ∨ n = 11 ∨ n = 12 ∨ n = 18
  · rcases h with rfl | rfl | rfl | rfl | rfl | rfl | rfl | rfl | rfl | rfl | rfl | rfl | rfl | rfl
    all_goals
      go_enter Tryd.func26, Tryd.ntmps26
      go_wp2
      go_ret
      exact ⟨rfl, rfl⟩
  · have H : Hid (putsV n = 0) := hid (by unfold putsV; rw [if_neg (by omega), if_neg (by omega)])
    have g1 := ne_beq (n := n) (m := 13) (by omega)
    have g2 := ne_beq (n := n) (m := 15) (by omega)
    have g3 := ne_beq (n := n) (m := 1) (by omega)
    have g4 := ne_beq (n := n) (m := 2) (by omega)
    have g5 := ne_beq (n := n) (m := 4) (by omega)
    have g6 := ne_beq (n := n) (m := 5) (by omega)
    have g7 := ne_beq (n := n) (m := 6) (by omega)
    have g8 := ne_beq (n := n) (m := 7) (by omega)
    have g9 := ne_beq (n := n) (m := 8) (by omega)
    have g10 := ne_beq (n := n) (m := 9) (by omega)
    have g11 := ne_beq (n := n) (m := 10) (by omega)
    have g12 := ne_beq (n := n) (m := 11) (by omega)
    have g13 := ne_beq (n := n) (m := 12) (by omega)
    have g14 := ne_beq (n := n) (m := 18) (by omega)
    rw [H.out]
    clear h
    go_enter Tryd.func26, Tryd.ntmps26
    go_wp2
    go_ret
    exact ⟨rfl, rfl⟩
end Go.Proofs.YtbnhdmalkmcalaaDoor

namespace Go.Proofs.YtbnhdmalkmcalaaDoor
open Go.RowKit Go.Proofs.Heap Go.Proofs.Sch

set_option maxRecDepth 20000 in
set_option maxHeartbeats 32000000 in
theorem craft_rows (a b : VSys) (pa : Option Addr) (ca : Nat) (pc : Option Addr) (cc : Nat) (pa2 : Option Addr) (ca2 : Nat) (pc2 : Option Addr) (cc2 : Nat) (x : VOp) (w : World) (hA : SysIn w a pa ca pc) (hB : SysIn w b pa2 ca2 pc2)
    (htab : Lib.TabIs Tryd.prog w "internal/strconv.uint64pow10" .u64 Lib.pow10Tab) :
    Calls Tryd.prog 4 #[SysV a pa ca pc cc, SysV b pa2 ca2 pc2 cc2, OV x] w fun r w' => r = .returned (.bool true) ∧ Keep (fun _ => False) w w' := by
  have HTAB := hid (fun wy hk => craft_awake wy (tab_keep htab hk))
  obtain ⟨w1, hw1, hb1, hb2, hb3, hs1, hk1⟩ := box3 w (SysC a pa ca pc cc) (SysC b pa2 ca2 pc2 cc2) (OC x) 27 27 50
  have HK1 := hid hk1; have HA1 := hid hb1; have HB1 := hid hb2; have HX1 := hid hb3
  have HIA := hid (fun wy (hk : Keep (fun _ => False) w wy) => hA.keep hk)
  have HIB := hid (fun wy (hk : Keep (fun _ => False) w wy) => hB.keep hk)
  clear hb1 hb2 hb3 hs1 hk1 htab hA hB
  go_enter Tryd.func4, Tryd.ntmps4
  go_upto_region 1 with fail
  rw [← hw1]
  clear hw1
  generalize w.heap.size + 1 + 1 = xB at *
  generalize w.heap.size + 1 = bB at *
  generalize w.heap.size = aB at *
  go_wp2_with fail
  refine (HTAB.out w1 HK1.out).mono ?_
  rintro r w2 ⟨rfl, hk⟩
  have HA2 := hid (hk.get HA1.out id); have HB2 := hid (hk.get HB1.out id); have HX2 := hid (hk.get HX1.out id); have HK2 := hid (HK1.out.trans hk)
  clear hk HTAB
  have a0 := cell_of HA2.out (i := 0) (by rfl)
  have a1 := cell_of HA2.out (i := 1) (by rfl)
  have a2 := cell_of HA2.out (i := 2) (by rfl)
  have a3 := cell_of HA2.out (i := 3) (by rfl)
  have a4 := cell_of HA2.out (i := 4) (by rfl)
  have a5 := cell_of HA2.out (i := 5) (by rfl)
  go_wp2_with fail
  refine (cr_great a pa ca pc cc w2 (HIA.out w2 HK2.out).aft).mono ?_
  rintro r w3 ⟨rfl, hk⟩
  have HA3 := hid (hk.get HA2.out id); have HB3 := hid (hk.get HB2.out id); have HX3 := hid (hk.get HX2.out id); have HK3 := hid (HK2.out.trans hk)
  clear hk
  clear a0 a1 a2 a3 a4 a5
  have b0 := cell_of HB3.out (i := 0) (by rfl)
  have b1 := cell_of HB3.out (i := 1) (by rfl)
  have b2 := cell_of HB3.out (i := 2) (by rfl)
  have b3 := cell_of HB3.out (i := 3) (by rfl)
  have b4 := cell_of HB3.out (i := 4) (by rfl)
  have b5 := cell_of HB3.out (i := 5) (by rfl)
  cases ga : greatY a
  rotate_left
  · go_wp2
    go_ret
    exact ⟨rfl, HK3.out⟩
  obtain ⟨_, hal, hcl, _⟩ := greatY_no ga
  have HAL := hid hal; have HCL := hid hcl
  clear ga hal hcl
  go_wp2_with fail
  refine (cr_great b pa2 ca2 pc2 cc2 w3 (HIB.out w3 HK3.out).aft).mono ?_
  rintro r w4 ⟨rfl, hk⟩
  have HA4 := hid (hk.get HA3.out id); have HB4 := hid (hk.get HB3.out id); have HX4 := hid (hk.get HX3.out id); have HK4 := hid (HK3.out.trans hk)
  clear hk
  clear b0 b1 b2 b3 b4 b5
  cases gb : greatY b
  rotate_left
  · go_wp2
    go_ret
    exact ⟨rfl, HK4.out⟩
  obtain ⟨_, hbl, hbc, _⟩ := greatY_no gb
  have HBL := hid hbl; have HBC := hid hbc
  clear gb hbl hbc
  go_upto_region 5 with fail
  have HA5 : Hid (w4.drew.heap[aB]? = some (.cells (SysC a pa ca pc cc) 27 (0, 0))) := HA4
  have HB5 : Hid (w4.drew.heap[bB]? = some (.cells (SysC b pa2 ca2 pc2 cc2) 27 (0, 0))) := HB4
  have HX5 : Hid (w4.drew.heap[xB]? = some (.cells (OC x) 50 (0, 0))) := HX4
  have HK5 := hid HK4.out.drew
  refine Plan.wp_region_pl [(false, 0, []), (false, 1, []), (false, 3, []), (false, 5, []), (true, 2, [5, 3]), (true, 4, [5]), (true, 6, []), (true, 7, []), (false, 8, []), (false, 9, []), (false, 10, []), (false, 12, []), (false, 13, []), (true, 11, [13, 12]), (true, 14, []), (false, 15, []), (false, 16, []), (false, 17, []), (false, 18, []), (false, 20, []), (false, 21, []), (true, 19, [21, 20]), (true, 22, []), (false, 23, []), (false, 24, []), (false, 25, [])] (by as_aux_lemma => kernel_rfl) (by as_aux_lemma => kernel_rfl) ?_
  generalize w4.drew = w5 at *
  have HEQ := hid (craft_equal a b pa ca pc cc pa2 ca2 pc2 cc2 w5 (by have := HBL.out; omega) (by have := HCL.out; omega) (HIA.out w5 HK5.out).aft (HIA.out w5 HK5.out).code (HIB.out w5 HK5.out).aft (HIB.out w5 HK5.out).code)
  refine Plan.pl_st rfl ?_
  refine Plan.wpQuiet_load_g rfl 27 _ rfl _ rfl _ (load_sys HA5.out) ?_
  simp only [Act.put, List.setIfInBounds_toArray, List.set_cons_succ, List.set_cons_zero]
  refine wpQuiet_nil ?_
  refine Plan.pl_st rfl ?_
  refine Plan.wpQuiet_load_g rfl 27 _ rfl _ rfl _ (load_sys HB5.out) ?_
  simp only [Act.put, List.setIfInBounds_toArray, List.set_cons_succ, List.set_cons_zero]
  refine wpQuiet_nil ?_
  refine Plan.pl_st rfl ?_
  refine Plan.wpQuiet_load_g rfl 27 _ rfl _ rfl _ (load_sys HA5.out) ?_
  simp only [Act.put, List.setIfInBounds_toArray, List.set_cons_succ, List.set_cons_zero]
  refine wpQuiet_nil ?_
  refine Plan.pl_st rfl ?_
  refine Plan.wpQuiet_load_g rfl 27 _ rfl _ rfl _ (load_sys HB5.out) ?_
  simp only [Act.put, List.setIfInBounds_toArray, List.set_cons_succ, List.set_cons_zero]
  refine wpQuiet_nil ?_
  refine Plan.pl_ac rfl ?_
  go_wp2_with fail
  refine HEQ.out.mono ?_
  rintro r w6 ⟨rfl, hk⟩
  have HA6 := hid (hk.get HA5.out id); have HB6 := hid (hk.get HB5.out id); have HX6 := hid (hk.get HX5.out id); have HK6 := hid (HK5.out.trans hk)
  clear hk HEQ
  go_wp2
  refine Plan.plQ_mk ?_ ?_
  · refine Plan.chk_st rfl ?_ ?_
    focus (refine Plan.wpQuiet_load_g rfl 27 _ rfl _ rfl _ (load_sys HB6.out) ?_; exact wpQuiet_nil rfl)
    refine Plan.chk_st rfl ?_ ?_
    focus (refine Plan.wpQuiet_load_g rfl 27 _ rfl _ rfl _ (load_sys HA6.out) ?_; exact wpQuiet_nil rfl)
    exact Plan.chk_end
  have HFA := hid (cr_form a pa ca pc cc w6 (by have := HCL.out; omega) (HIA.out w6 HK6.out).code)
  refine Plan.pl_ac rfl ?_
  go_wp2_with fail
  refine HFA.out.mono ?_
  rintro r w7 ⟨oa, oc, rfl, hv, _, hk⟩
  have HV7 := hid hv
  have HA7 := hid (hk.get HA6.out id); have HB7 := hid (hk.get HB6.out id); have HX7 := hid (hk.get HX6.out id); have HK7 := hid (HK6.out.trans hk)
  clear hk hv HFA
  go_wp2
  refine Plan.plQ_mk ?_ ?_
  · refine Plan.chk_st rfl ?_ ?_
    focus (refine Plan.wpQuiet_load_g rfl 27 _ rfl _ rfl _ (load_sys HB7.out) ?_; exact wpQuiet_nil rfl)
    exact Plan.chk_end
  have HFB := hid (cr_form b pa2 ca2 pc2 cc2 w7 (by have := HBC.out; omega) (HIB.out w7 HK7.out).code)
  refine Plan.pl_ac rfl ?_
  go_wp2_with fail
  refine HFB.out.mono ?_
  rintro r w8 ⟨ob, od, rfl, hv, _, hk⟩
  have HW8 := hid hv
  have HV8 := hid (VP.mono (VP.low HV7.out (Low.keep0 hk)) hk.size)
  have HX8 := hid (hk.get HX7.out id); have HK8 := hid (HK7.out.trans hk)
  clear hk hv HFB HV7
  go_wp2
  refine Plan.plQ_mk Plan.chk_end ?_
  have HSM := hid (cr_same a b pa ca oa oc pa2 ca2 ob od w8 (by have := HAL.out; omega) (by have := HCL.out; omega) (HIA.out w8 HK8.out).aft HV8.out (HIB.out w8 HK8.out).aft HW8.out)
  refine Plan.pl_ac rfl ?_
  go_wp2_with fail
  refine HSM.out.mono ?_
  rintro r w9 ⟨rfl, hk⟩
  have HX9 := hid (hk.get HX8.out id); have HK9 := hid (HK8.out.trans hk)
  clear hk HSM
  go_wp2
  refine Plan.plQ_mk Plan.chk_end ?_
  generalize eqY a b = Q at *
  have hqq : (Q == Q) = true := by simp
  iterate 2 (refine Plan.pl_st rfl ?_; go_big_quiet_step (fail); refine wpQuiet_nil ?_)
  refine Plan.pl_st rfl ?_
  refine Plan.wpQuiet_load_g rfl 50 _ rfl _ rfl _ (load_opC HX9.out) ?_
  simp only [Act.put, List.setIfInBounds_toArray, List.set_cons_succ, List.set_cons_zero]
  refine wpQuiet_nil ?_
  have x0 := cell_of HX9.out (i := 0) (by rfl)
  iterate 2 (refine Plan.pl_st rfl ?_; go_big_quiet_step (fail); refine wpQuiet_nil ?_)
  refine Plan.pl_ac rfl ?_
  go_wp2_with fail
  refine (takes_op x w9).mono ?_
  rintro r w10 ⟨rfl, hk⟩
  have HX10 := hid (hk.get HX9.out id); have HK10 := hid (HK9.out.trans hk)
  clear hk x0
  have x0 := cell_of HX10.out (i := 0) (by rfl)
  go_wp2
  refine Plan.plQ_mk ?_ ?_
  · iterate 2 (refine Plan.chk_st rfl ?_ ?_; focus (go_big_quiet_step (fail); exact wpQuiet_nil rfl))
    exact Plan.chk_end
  refine Plan.pl_ac rfl ?_
  go_wp2_with fail
  refine (r_takes x.code _).mono ?_
  rintro r w_ ⟨rfl, rfl⟩
  go_wp2
  refine Plan.plQ_mk Plan.chk_end ?_
  generalize takesV x.code = n at *
  have hnn : (n == n) = true := by simp
  iterate 3 (refine Plan.pl_st rfl ?_; go_big_quiet_step (fail); refine wpQuiet_nil ?_)
  refine Plan.pl_st rfl ?_
  refine Plan.wpQuiet_load_g rfl 50 _ rfl _ rfl _ (load_opC HX10.out) ?_
  simp only [Act.put, List.setIfInBounds_toArray, List.set_cons_succ, List.set_cons_zero]
  refine wpQuiet_nil ?_
  iterate 2 (refine Plan.pl_st rfl ?_; go_big_quiet_step (fail); refine wpQuiet_nil ?_)
  refine Plan.pl_ac rfl ?_
  go_wp2_with fail
  refine (puts_op x w10).mono ?_
  rintro r w11 ⟨rfl, hk⟩
  have HX11 := hid (hk.get HX10.out id); have HK11 := hid (HK10.out.trans hk)
  clear hk x0
  have x0 := cell_of HX11.out (i := 0) (by rfl)
  go_wp2
  refine Plan.plQ_mk ?_ ?_
  · iterate 2 (refine Plan.chk_st rfl ?_ ?_; focus (go_big_quiet_step (fail); exact wpQuiet_nil rfl))
    exact Plan.chk_end
  refine Plan.pl_ac rfl ?_
  go_wp2_with fail
  refine (r_puts x.code _).mono ?_
  rintro r w_ ⟨rfl, rfl⟩
  go_wp2
  refine Plan.plQ_mk Plan.chk_end ?_
  generalize putsV x.code = m at *
  have hmm : (m == m) = true := by simp
  iterate 3 (refine Plan.pl_st rfl ?_; go_big_quiet_step (fail); refine wpQuiet_nil ?_)
  refine Plan.pl_end ?_
  clear x0
  go_wp2
  go_ret
  exact ⟨rfl, HK11.out⟩
end Go.Proofs.YtbnhdmalkmcalaaDoor

namespace Go.Proofs.YtbnhdmalkmcalaaDoor
open Go.RowKit Go.Proofs.Heap Go.Proofs.Sch

theorem tab_of_rows {W : World} (h : laidMetH Tryd.prog Rows.craftRowsRow.laid W) : Lib.TabIs Tryd.prog W "internal/strconv.uint64pow10" .u64 Lib.pow10Tab := by
  have h1 := laidMetH.filter (fun x => x.1 == "internal/strconv.uint64pow10") h
  have h2 : laidMetH Tryd.prog [("internal/strconv.uint64pow10", Lib.tabData .u64 Lib.pow10Tab)] W := h1
  rw [MakeChecks.laidMetH_plain _ _ _ (by kernel_rfl)] at h2
  exact Lib.tabIs_of_head (g := 3) (by kernel_rfl) (by kernel_rfl) Tryd.underlying192 Tryd.underlying63 (by kernel_rfl) (by kernel_rfl) h2
theorem rows_true (a : VSys) (pa : Option Addr) (ca : Nat) (pc : Option Addr) (cc : Nat) (b : VSys) (pa2 : Option Addr) (ca2 : Nat) (pc2 : Option Addr) (cc2 : Nat) (x : VOp) (w : World) (hA : SysIn w a pa ca pc) (hB : SysIn w b pa2 ca2 pc2)
    (htab : Lib.TabIs Tryd.prog w "internal/strconv.uint64pow10" .u64 Lib.pow10Tab) :
    Calls Tryd.prog 4 #[SysV a pa ca pc cc, SysV b pa2 ca2 pc2 cc2, OV x] w fun e w' => e = .returned (.bool true) ∧ Below w.heap.size w w' :=
  (craft_rows a b pa ca pc cc pa2 ca2 pc2 cc2 x w hA hB htab).mono fun _ _ h => ⟨h.1, h.2.below⟩
end Go.Proofs.YtbnhdmalkmcalaaDoor
