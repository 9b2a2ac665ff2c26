/- What is proved: systems of the document's form are compared as a whole. -/
import Derived.Test.YtbnhdmalkmcalaaDoorMCrEq
import Derived.Test.YtbnhdmalkmcalaaDoorMCrBack
import Derived.Test.YtbnhdmalkmcalaaDoorMRf9
import Derived.Test.YtbnhdmalkmcalaaDoorMRdr
namespace Go.Proofs.YtbnhdmalkmcalaaDoor
open Go.RowKit Go.Proofs.Heap Go.Proofs.Sch

theorem eq_rop (x y : VOp) (w : World) : (Op.equalIn 10000 83 (OV x) (OV y)).run Tryd.prog w = .ok (decide (x = y)) w := by
  have u3 := Tryd.underlying3
  have a3 := Tryd.isAgg3
  have z3 := Tryd.sizeOf3
  rw [show (10000 : Nat) = 9999 + 1 from rfl, Op.equalIn]
  simp only [Sem.run_bind, run_underlying Tryd.underlying83, Result.andThen_ok]
  simp only [Std.Legacy.Range.forIn_eq_forIn_range', Std.Legacy.Range.size, Nat.sub_zero, Nat.add_sub_cancel, Nat.div_one, List.range'_succ, List.range'_zero, List.forIn_cons, List.forIn_nil]
  go_simp
  obtain ⟨c1, a1, b1, d1, k1⟩ := x
  obtain ⟨c2, a2, b2, d2, k2⟩ := y
  simp only [VOp.mk.injEq]
  by_cases e1 : c1 = c2 <;> by_cases e2 : a1 = a2 <;> by_cases e3 : b1 = b2 <;> by_cases e4 : d1 = d2 <;> by_cases e5 : k1 = k2 <;> simp [e1, e2, e3, e4, e5]
theorem neq_rop (x y : VOp) (w : World) : (binOp .neq 83 (OV x) (OV y)).run Tryd.prog w = .ok (.bool (!decide (x = y))) w := by
  rw [run_neq_struct, eq_rop]; rfl
theorem neq_rop1 (x : VOp) (w : World) : (binOp .neq 83 (OV x) (OV x)).run Tryd.prog w = .ok (.bool false) w := by rw [neq_rop]; simp
theorem neq_rop2 {x y : VOp} (h : x ≠ y) (w : World) : (binOp .neq 83 (OV x) (OV y)).run Tryd.prog w = .ok (.bool true) w := by rw [neq_rop, decide_eq_false h]; rfl

set_option maxRecDepth 20000 in
set_option maxHeartbeats 16000000 in
theorem cr_same (a b : VSys) (pa : Option Addr) (ca : Nat) (pc : Option Addr) (cc : Nat) (pa2 : Option Addr) (ca2 : Nat) (pc2 : Option Addr) (cc2 : Nat) (w : World) (hl1 : a.after.length ≤ 65536) (hl2 : a.code.length ≤ 65536) (ha : TP w w.heap.size pa a.after) (hc : VP w w.heap.size pc a.code) (ha2 : TP w w.heap.size pa2 b.after) (hc2 : VP w w.heap.size pc2 b.code) :
    Calls Tryd.prog 21 #[SysV a pa ca pc cc, SysV b pa2 ca2 pc2 cc2] w fun r w' => r = .returned (.bool (eqY a b)) ∧ Keep (fun _ => False) w w' := by
  have HEA := hid (fun (wy : World) (hk : Keep (fun _ => False) w wy) => cr_texts a.after b.after pa pa2 ca ca2 wy hl1 (TP.mono (TP.low ha (Low.keep0 hk)) hk.size) (TP.mono (TP.low ha2 (Low.keep0 hk)) hk.size))
  have HX := hid (fun (wy : World) (hk : Keep (fun _ => False) w wy) => VP.low hc (Low.keep0 hk))
  have HY := hid (fun (wy : World) (hk : Keep (fun _ => False) w wy) => VP.low hc2 (Low.keep0 hk))
  have HR : Hid (eqY a b = (a.name.toList == b.name.toList && (a.stage == b.stage && (decide (a.after = b.after) && (a.all == b.all && (a.none == b.none && decide (a.code = b.code))))))) := hid rfl
  generalize eqY a b = R at *
  obtain ⟨w1, hw1, hb1, hb2, hs1, hk1⟩ := box2 w (SysC a pa ca pc cc) (SysC b pa2 ca2 pc2 cc2) 32 32
  have HK1 := hid hk1
  have HB1 := hid hb1; have HB2 := hid hb2
  have HCL := hid hl2
  clear hb1 hb2 hs1 hk1 hl1 hl2 ha hc ha2 hc2
  go_enter Tryd.func21, Tryd.ntmps21
  go_upto_region 1 with fail
  rw [← hw1]
  clear hw1
  generalize w.heap.size = sb at *
  have c0 := cell_of HB1.out (i := 0) (by rfl)
  have c1 := cell_of HB1.out (i := 1) (by rfl)
  have c2 := cell_of HB1.out (i := 2) (by rfl)
  have d0 := cell_of HB2.out (i := 0) (by rfl)
  have d1 := cell_of HB2.out (i := 1) (by rfl)
  have d2 := cell_of HB2.out (i := 2) (by rfl)
  cases e1 : (a.name.toList == b.name.toList)
  · have G : Hid (R = false) := hid (by rw [HR.out, e1]; rfl)
    have e1' : (!a.name.toList == b.name.toList) = true := by rw [e1]; rfl
    go_wp2
    go_ret
    exact ⟨by rw [G.out]; rfl, HK1.out⟩
  have e1' : (!a.name.toList == b.name.toList) = false := by rw [e1]; rfl
  cases e2 : (a.stage == b.stage)
  · have G : Hid (R = false) := hid (by rw [HR.out, e1, e2]; rfl)
    have e2' : (a.stage != b.stage) = true := by rw [bne, e2]; rfl
    go_wp2
    go_ret
    exact ⟨by rw [G.out]; rfl, HK1.out⟩
  have e2' : (a.stage != b.stage) = false := by rw [bne, e2]; rfl
  have HR2 : Hid (R = (decide (a.after = b.after) && (a.all == b.all && (a.none == b.none && decide (a.code = b.code))))) := hid (by rw [HR.out, e1, e2]; rfl)
  clear HR
  go_wp2_with fail
  refine (HEA.out _ HK1.out).mono ?_
  rintro r w2 ⟨rfl, hk2⟩
  have HK2 := hid (HK1.out.trans hk2)
  have HC1 := hid (hk2.get HB1.out id); have HC2 := hid (hk2.get HB2.out id)
  clear hk2 c0 c1 c2 d0 d1 d2
  have c3 := cell_of HC1.out (i := 3) (by rfl)
  have c4 := cell_of HC1.out (i := 4) (by rfl)
  have c5 := cell_of HC1.out (i := 5) (by rfl)
  have d3 := cell_of HC2.out (i := 3) (by rfl)
  have d4 := cell_of HC2.out (i := 4) (by rfl)
  have d5 := cell_of HC2.out (i := 5) (by rfl)
  cases e3 : decide (a.after = b.after)
  · have G : Hid (R = false) := hid (by rw [HR2.out, e3]; rfl)
    clear e3
    go_wp2
    go_ret
    exact ⟨by rw [G.out]; rfl, HK2.out⟩
  cases e4 : (a.all == b.all)
  · have G : Hid (R = false) := hid (by rw [HR2.out, e3, e4]; rfl)
    have e4' : ((a.all : Int) != (b.all : Int)) = true := by rw [beq_eq_false_iff_ne] at e4; rw [bne_iff_ne]; omega
    have e4'' : (a.all != b.all) = true := by rw [bne, e4]; rfl
    clear e3
    go_wp2
    go_ret
    exact ⟨by rw [G.out]; rfl, HK2.out⟩
  have e4' : ((a.all : Int) != (b.all : Int)) = false := by rw [beq_iff_eq] at e4; rw [e4]; simp
  have e4'' : (a.all != b.all) = false := by rw [bne, e4]; rfl
  cases e5 : (a.none == b.none)
  · have G : Hid (R = false) := hid (by rw [HR2.out, e3, e4, e5]; rfl)
    have e5' : ((a.none : Int) != (b.none : Int)) = true := by rw [beq_eq_false_iff_ne] at e5; rw [bne_iff_ne]; omega
    have e5'' : (a.none != b.none) = true := by rw [bne, e5]; rfl
    clear e3
    go_wp2
    go_ret
    exact ⟨by rw [G.out]; rfl, HK2.out⟩
  have e5' : ((a.none : Int) != (b.none : Int)) = false := by rw [beq_iff_eq] at e5; rw [e5]; simp
  have e5'' : (a.none != b.none) = false := by rw [bne, e5]; rfl
  have HR3 : Hid (R = decide (a.code = b.code)) := hid (by rw [HR2.out, e3, e4, e5]; rfl)
  clear e3 HR2
  by_cases hn : a.code.length = b.code.length
  rotate_left
  · have G : Hid (R = false) := hid (by rw [HR3.out]; exact decide_eq_false (fun h => hn (by rw [h])))
    have g1 : ((a.code.length : Int) != (b.code.length : Int)) = true := by rw [bne_iff_ne]; omega
    have g2 : (a.code.length != b.code.length) = true := by rw [bne_iff_ne]; exact hn
    clear hn
    go_wp2
    go_ret
    exact ⟨by rw [G.out]; rfl, HK2.out⟩
  have HN := hid hn
  have g1 : ((a.code.length : Int) != (b.code.length : Int)) = false := by rw [hn]; simp
  have g2 : (a.code.length != b.code.length) = false := by rw [hn]; simp
  obtain ⟨xs, hxs⟩ : ∃ xs, a.code = xs := ⟨_, rfl⟩
  obtain ⟨ys, hys⟩ : ∃ ys, b.code = ys := ⟨_, rfl⟩
  have HQT : Hid (xs = ys → R = true) := hid (fun h => by rw [HR3.out, hxs, hys]; exact decide_eq_true h)
  have HQF : Hid (xs ≠ ys → R = false) := hid (fun h => by rw [HR3.out, hxs, hys]; exact decide_eq_false h)
  have HNX0 : Hid (a.code.length = xs.length ∧ b.code.length = ys.length ∧ xs.length = ys.length) := hid ⟨by rw [hxs], by rw [hys], by rw [← hxs, ← hys]; exact hn⟩
  have HXX : Hid (∀ wy, Keep (fun _ => False) w wy → VP wy sb pc xs) := hid (fun wy hk => by rw [← hxs]; exact HX.out wy hk)
  have HYY : Hid (∀ wy, Keep (fun _ => False) w wy → VP wy sb pc2 ys) := hid (fun wy hk => by rw [← hys]; exact HY.out wy hk)
  clear hn hxs hys HX HY HR3
  go_wp2_with fail
  clear c3 c4 c5 d3 d4 d5 e1 e1' e2 e2' e4 e4' e4'' e5 e5' e5'' g1 g2
  obtain ⟨n, hn⟩ : ∃ n, a.code.length = n := ⟨_, rfl⟩
  obtain ⟨n2, hn2⟩ : ∃ n2, b.code.length = n2 := ⟨_, rfl⟩
  have HNN : Hid (n = xs.length ∧ n2 = xs.length ∧ ys.length = xs.length) := hid ⟨by rw [← hn]; exact HNX0.out.1, by rw [← hn2, HNX0.out.2.1, HNX0.out.2.2], HNX0.out.2.2.symm⟩
  have HP5 : Hid (∀ wy, Keep (fun _ => False) w2 wy → wy.cell? ⟨sb, 5, none⟩ = some (.slice pc n cc) ∧ wy.cell? ⟨sb + 1, 5, none⟩ = some (.slice pc2 n2 cc2)) := hid (fun wy hk => by
    rw [← hn, ← hn2]
    exact ⟨cell_of (hk.get HC1.out id) (by rfl), cell_of (hk.get HC2.out id) (by rfl)⟩)
  have HCL2 : Hid (n ≤ 65536) := hid (by rw [← hn]; exact HCL.out)
  have hcl := HCL2.out
  rw [hn]
  clear hn hn2
  go_loopw [5] (fun i wr => ∃ k : Nat, k ≤ n ∧ i = iV k ∧ (∀ j, j < k → xs[j]? = ys[j]?) ∧ Keep (fun _ => False) w2 wr) (fun i _ => n + 1 - (RowKit.intOf i).toNat)
  case atStart => exact ⟨0, Nat.zero_le _, rfl, fun j hj => by omega, Keep.refl _ _⟩
  case round =>
    obtain ⟨k, hk, rfl, hal, hkr⟩ := hrel
    have HAL := hid hal; have HKR := hid hkr
    have HKW := hid (HK2.out.trans hkr)
    have c5 : wr.cell? ⟨sb, 5, none⟩ = some (.slice pc n cc) := (HP5.out wr hkr).1
    clear hal hkr
    by_cases hlt : k < n
    · obtain ⟨x, hxk⟩ : ∃ x, xs[k]? = some x := ⟨xs[k]'(by rw [← HNN.out.1]; exact hlt), by simp [← HNN.out.1, hlt]⟩
      obtain ⟨y, hyk⟩ : ∃ y, ys[k]? = some y := ⟨ys[k]'(by rw [HNN.out.2.2, ← HNN.out.1]; exact hlt), by simp [HNN.out.2.2, ← HNN.out.1, hlt]⟩
      obtain ⟨b1, o1, rfl, hb1, x0, x1, x2, x3, x4⟩ := VP.at (HXX.out wr.drew HKW.out.drew) hxk
      obtain ⟨b2, o2, rfl, hb2, y0, y1, y2, y3, y4⟩ := VP.at (HYY.out wr.drew HKW.out.drew) hyk
      have hin : (0 : Int) ≤ (k : Int) ∧ (k : Int) < (n : Int) := ⟨by omega, by omega⟩
      have hin2 : (0 : Int) ≤ (k : Int) ∧ (k : Int) < (n2 : Int) := ⟨by omega, by have h1 := HNN.out.1; have h2 := HNN.out.2.1; omega⟩
      have HNX : Hid (x = y → ∀ j, j < k + 1 → xs[j]? = ys[j]?) := hid (fun h j hj => by
        by_cases e : j = k
        · subst e; rw [hxk, hyk, h]
        · exact HAL.out j (by omega))
      have HNE : Hid (x ≠ y → R = false) := hid (fun h => HQF.out (fun e => h (by rw [e, hyk] at hxk; exact (Option.some.inj hxk).symm)))
      clear hxk hyk
      go_upto_region 6 with fail
      have f5 : wr.drew.cell? ⟨sb, 5, none⟩ = some (.slice (some ⟨b1, o1, none⟩) n cc) := (HP5.out wr.drew HKR.out.drew).1
      have g5 : wr.drew.cell? ⟨sb + 1, 5, none⟩ = some (.slice (some ⟨b2, o2, none⟩) n2 cc2) := (HP5.out wr.drew HKR.out.drew).2
      clear c5
      by_cases hxy : x = y
      · have G := hid (HNX.out hxy)
        subst hxy
        have hcmp := neq_rop1 x wr.drew
        refine Plan.wp_region_reads (by as_aux_lemma => kernel_rfl) (by as_aux_lemma => kernel_rfl) ?_
        iterate 10 (go_big_quiet_step (fail))
        refine quiet_neqC rfl _ _ _ _ _ _ _ rfl rfl rfl (by kernel_rfl) hcmp ?_
        refine wpQuiet_nil ?_
        clear x0 x1 x2 x3 x4 y0 y1 y2 y3 y4 hcmp f5 g5
        go_wp2
        go_roundw
        case rel => exact ⟨k + 1, by omega, by go_num, G.out, HKR.out.drew⟩
        case measure => simp [RowKit.intOf]; omega
      · have G := hid (HNE.out hxy)
        have hcmp := neq_rop2 hxy wr.drew
        clear hxy
        refine Plan.wp_region_reads (by as_aux_lemma => kernel_rfl) (by as_aux_lemma => kernel_rfl) ?_
        iterate 10 (go_big_quiet_step (fail))
        refine quiet_neqC rfl _ _ _ _ _ _ _ rfl rfl rfl (by kernel_rfl) hcmp ?_
        refine wpQuiet_nil ?_
        clear x0 x1 x2 x3 x4 y0 y1 y2 y3 y4 hcmp f5 g5
        go_wp2
        go_ret
        exact ⟨by rw [G.out]; rfl, HKW.out.drew⟩
    · obtain rfl : k = n := by omega
      have G : Hid (R = true) := hid (HQT.out (List.ext_getElem? fun j => by
        by_cases h : j < k
        · exact HAL.out j h
        · rw [List.getElem?_eq_none (by rw [← HNN.out.1]; omega), List.getElem?_eq_none (by rw [HNN.out.2.2, ← HNN.out.1]; omega)]))
      go_wp2
      go_ret
      exact ⟨by rw [G.out]; rfl, HKW.out⟩
end Go.Proofs.YtbnhdmalkmcalaaDoor

namespace Go.Proofs.YtbnhdmalkmcalaaDoor
open Go.RowKit Go.Proofs.Heap Go.Proofs.Sch

theorem info_u8L : (Tryd.prog.info? 5).map (fun i => (i.zero, i.size, i.bytes)) = some (some (.int .u8 0), 1, 1) := by kernel_rfl
/-- An owned row of bytes, as a text. -/
theorem run_row_string {w : World} {base : Nat} {sv : Value} {n : Nat} {l : List UInt8} (hn : l.length = n) (h : w.ownsRow base 5 1 sv n (l.map byteV)) :
    (convert 55 9 sv).run Tryd.prog w = .ok (.string ⟨l.toArray⟩) w := by
  rcases owns_block h with ⟨rfl, h0, h1⟩ | ⟨g, cap, cur, rfl, _, hg, _⟩
  · obtain rfl : l = [] := by simpa using h1
    kernel_rfl
  · refine run_bytes_string w _ _ 5 (by kernel_rfl) (by kernel_rfl) (by kernel_rfl) g 0 _ cap l hn fun i x hx => ?_
    rw [Nat.zero_add, owns_cell h (by rw [← hn]; exact (List.getElem?_eq_some_iff.1 hx).1), List.getElem?_map, hx]
    rfl
set_option maxRecDepth 20000 in
set_option maxHeartbeats 8000000 in
theorem r_low (n wd : Nat) (hn : n < 18446744073709551616) (hwd : wd ≤ 8) (w : World) :
    Calls Tryd.prog 55 #[.int .u64 (n : Int), .int .i64 (wd : Int)] w fun r w' => r = .returned (.string (bsB (leL wd n))) ∧ Keep (fun _ => False) w w' := by
  obtain ⟨i0, hi0, hz0, hz1, hz2⟩ := info_parts' info_u8L
  obtain ⟨w1, hw1, hb1, hs1, hk1⟩ := box1 w #[] 5
  have hm0 : w1.ownsRow w.heap.size 5 1 (.slice (some ⟨w.heap.size, 0, none⟩) 0 0) 0 ((leL 0 n).map byteV) := by
    rw [hw1]; exact World.ownsRow_made w #[] 0 (Nat.le_refl _) (by unfold maxLen; omega) (by simp)
  have HM0 := hid hm0; have HK1 := hid hk1
  clear hm0 hk1 hb1 hs1
  go_enter Tryd.func55, Tryd.ntmps55
  go_upto_region 2 with fail
  rw [← hw1]
  clear hw1
  go_wp2_with fail
  go_loopw [0, 5, 6] (fun m o i wr => ∃ (k : Nat) (a : Option Addr) (c : Nat), k ≤ wd ∧ i = iV k ∧ m = .int .u64 ((n / 256 ^ k : Nat) : Int) ∧ o = .slice a k c ∧ wr.ownsRow w.heap.size 5 1 (.slice a k c) k ((leL k n).map byteV) ∧ Keep (fun _ => False) w wr) (fun _ _ i _ => wd + 1 - (RowKit.intOf i).toNat)
  case atStart => exact ⟨0, _, _, Nat.zero_le _, rfl, by simp, rfl, HM0.out, HK1.out⟩
  case round =>
    obtain ⟨k, a, c, hk, rfl, rfl, rfl, how, hkr⟩ := hrel
    have HO := hid how; have HKR := hid hkr
    clear how hkr
    by_cases hlt : k < wd
    · have HNX : Hid ((leL (k + 1) n).map byteV = (leL k n).map byteV ++ [.int .u8 ((n / 256 ^ k % 256 : Nat) : Int)]) := hid (by
        rw [leL_next, List.map_append]
        show _ ++ [byteV (UInt8.ofNat (n / 256 ^ k))] = _
        unfold byteV
        rw [UInt8.toNat_ofNat'])
      have HDV : Hid (n / 256 ^ (k + 1) = n / 256 ^ k / 256) := hid (by rw [Nat.pow_succ, Nat.div_div_eq_div_mul])
      have hml : n / 256 ^ k < 18446744073709551616 := Nat.lt_of_le_of_lt (Nat.div_le_self _ _) hn
      generalize n / 256 ^ k = m at *
      generalize (leL k n).map byteV = us at *
      obtain ⟨d, hd⟩ : ∃ d : Nat, m % 256 = d := ⟨_, rfl⟩
      obtain ⟨q, hq⟩ : ∃ q : Nat, m / 256 = q := ⟨_, rfl⟩
      have hd2 : d < 256 := by omega
      have hq2 : q < 18446744073709551616 := by omega
      have hrem : (m : Int).tmod 256 = (d : Int) := by rw [Int.tmod_eq_emod_of_nonneg (by omega)]; omega
      have hquo : (m : Int).tdiv 256 = (q : Int) := by rw [Int.tdiv_eq_ediv_of_nonneg (by omega)]; omega
      rw [hd] at HNX; rw [hq] at HDV
      clear hd hq
      have hltI : (k : Int) < (wd : Int) := by omega
      go_wp2_with (at_builtin; go_loud (refine wpList_append_rd rfl (.tmp 13) (.tmp 17) _ rfl w.heap.size _ i0 _ 1 1 Tryd.underlying55 hi0 hz0 hz1 hz2 rfl (by decide) _ k _ (by rfl) (HO.out.alloc _) _ 1 [.int .u8 (d : Int)] (by rfl) (rd_block (heap_alloc_new wr _) (by simp) (by simp [Value.oneCell'])) (by unfold maxLen; omega) (by omega) (by have := HKR.out.size; simp; omega) ?_); go_loud (intro v' w8 hown6 hgrow6 hat6 hn6; obtain ⟨vq, vd, rfl⟩ := owns_val hown6; have HO8 := hid hown6; have HK8 := hid ((HKR.out.alloc _).grown hgrow6 (fun k hk => .inl (HO.out.lt k hk).1)); clear hown6 hgrow6 hat6 hn6))
      go_wp2
      go_roundw
      case rel => exact ⟨k + 1, vq, vd, by omega, by go_num, by rw [HDV.out], rfl, by rw [HNX.out]; exact HO8.out, HK8.out⟩
      case measure => simp [RowKit.intOf]; omega
    · obtain rfl : k = wd := by omega
      have hcv := run_row_string (leL_len k n) HO.out
      go_wp2
      go_ret
      exact ⟨rfl, HKR.out⟩
set_option maxRecDepth 20000 in
set_option maxHeartbeats 8000000 in
theorem r_number (s : ByteArray) (hs : s.size ≤ 8) (w : World) :
    Calls Tryd.prog 68 #[.string s] w fun r w' => r = .returned (.int .u64 (leN s.data.toList : Int)) ∧ w = w' := by
  obtain ⟨L, hL⟩ : ∃ L, s.data.toList = L := ⟨_, rfl⟩
  have HLS : Hid (L.length = s.size) := hid (by rw [← hL, Array.length_toList]; rfl)
  have HLA : Hid (∀ j (h : j < s.size), L[j]? = some (s[j]'h)) := hid (fun j h => by rw [← hL, Array.getElem?_toList]; exact Array.getElem?_eq_getElem h)
  rw [hL]
  clear hL
  go_enter Tryd.func68, Tryd.ntmps68
  go_wp2_with fail
  go_loopw [3, 4] (fun n i wr => ∃ k : Nat, k ≤ s.size ∧ i = .int .i64 ((k : Int) - 1) ∧ n = .int .u64 (leN (L.drop k) : Int) ∧ w = wr) (fun _ i _ => ((RowKit.intOf i) + 1).toNat)
  case atStart => exact ⟨s.size, Nat.le_refl _, rfl, by rw [List.drop_of_length_le (by rw [HLS.out]; omega)]; rfl, rfl⟩
  case round =>
    obtain ⟨k, hk, rfl, rfl, rfl⟩ := hrel
    by_cases hk0 : k = 0
    · subst hk0
      have g1 : decide ((0 : Int) ≤ ((0 : Nat) : Int) - 1) = false := by decide
      go_wp2
      go_ret
      exact ⟨rfl, rfl⟩
    · obtain ⟨j, rfl⟩ : ∃ j, k = j + 1 := ⟨k - 1, by omega⟩
      have e1 : (((j + 1 : Nat) : Int) - 1) = (j : Int) := by omega
      rw [e1]
      have hjs : j < s.size := by omega
      have g1 : decide ((0 : Int) ≤ (j : Int)) = true := decide_eq_true (by omega)
      have hlm : leN (L.drop (j + 1)) < 72057594037927936 := by
        have h1 := leN_lt (L.drop (j + 1))
        have h2 : (L.drop (j + 1)).length ≤ 7 := by rw [List.length_drop, HLS.out]; omega
        exact Nat.lt_of_lt_of_le h1 (pow_le h2)
      have hst : leN (L.drop j) = (s[j]'hjs).toNat + 256 * leN (L.drop (j + 1)) := by rw [drop_next (HLA.out j hjs), leN]
      obtain ⟨bt, hbt⟩ : ∃ bt, (s[j]'hjs).toNat = bt := ⟨_, rfl⟩
      have hb256 : bt < 256 := by rw [← hbt]; exact (s[j]'hjs).toNat_lt
      rw [hbt] at hst
      have HST := hid hst
      clear hst
      generalize leN (L.drop (j + 1)) = m at *
      have hin : (0 : Int) ≤ (j : Int) ∧ (j : Int) < (s.size : Int) := ⟨by omega, by omega⟩
      have hwb : IntKind.u64.wrap (bt : Int) = (bt : Int) := wraps64 _ (by omega) (by omega)
      have hw1 : IntKind.u64.wrap ((m : Int) * 256) = (m : Int) * 256 := wraps64 _ (by omega) (by omega)
      have hw2 : IntKind.u64.wrap ((m : Int) * 256 + (bt : Int)) = (m : Int) * 256 + (bt : Int) := wraps64 _ (by omega) (by omega)
      go_wp2
      go_roundw
      case rel => exact ⟨j, by omega, by go_num, by rw [HST.out]; congr 1; omega, by first | rfl | trivial⟩
      case measure => simp [RowKit.intOf]

theorem joinB_one (t : ByteArray) (s : UInt8) : joinB [t] s = t := by
  unfold joinB
  rw [List.map_cons, List.map_nil, Lib.join_one]
theorem joinTail_app (s : UInt8) (y : List UInt8) : ∀ r : List (List UInt8), Lib.joinTail [s] (r ++ [y]) = Lib.joinTail [s] r ++ (s :: y)
  | [] => by simp [Lib.joinTail]
  | x :: r => by
    have h1 : Lib.joinTail [s] ((x :: r) ++ [y]) = s :: (x ++ Lib.joinTail [s] (r ++ [y])) := rfl
    have h2 : Lib.joinTail [s] (x :: r) = s :: (x ++ Lib.joinTail [s] r) := rfl
    rw [h1, h2, joinTail_app s y r]
    simp [List.append_assoc]
theorem joinB_next {l : List ByteArray} (t : ByteArray) (s : UInt8) (h : l ≠ []) : joinB (l ++ [t]) s = joinB l s ++ ⟨#[s]⟩ ++ t := by
  cases l with
  | nil => exact absurd rfl h
  | cons x r =>
    apply ba_inj
    rw [ByteArray.data_append, ByteArray.data_append, Array.toList_append, Array.toList_append]
    show Lib.join (((x :: r) ++ [t]).map (·.data.toList)) [s] = Lib.join ((x :: r).map (·.data.toList)) [s] ++ [s] ++ t.data.toList
    rw [List.map_append, List.map_cons, List.map_cons, List.map_nil, List.cons_append, Lib.join_cons, Lib.join_cons, joinTail_app]
    simp [List.append_assoc]
theorem joinB_size {l : List ByteArray} {s : UInt8} {M : Nat} (h : ∀ t ∈ l, t.size ≤ M) : (joinB l s).size ≤ l.length * (M + 1) := by
  show ((Lib.join _ [s]).toArray).size ≤ _
  rw [List.size_toArray]
  refine Nat.le_trans (join_le (M := M) ?_) ?_
  · intro x hx
    obtain ⟨y, hy, rfl⟩ := List.mem_map.1 hx
    rw [Array.length_toList]
    exact h y hy
  · rw [List.length_map]; exact Nat.le_refl _
set_option maxRecDepth 20000 in
set_option maxHeartbeats 8000000 in
theorem r_text10 (n : Nat) (hn : n < 4294967296) (w : World) : Calls Tryd.prog 61 #[.int .u32 (n : Int)] w fun r w' => r = .returned (.string (sigT n)) ∧ Keep (fun _ => False) w w' := by
  have HR : Hid (sigT n = if idsT n 25 = [] then ⟨#[45]⟩ else joinB ((idsT n 25).map itB) 43) := hid rfl
  have HI1 := hid (fun w => r_ids n hn w)
  have HB : Hid (∀ i ∈ idsT n 25, 0 ≤ i ∧ i < 100) := hid (fun i hi => by obtain ⟨j, rfl, _, h, _⟩ := idsT_mem.1 hi; omega)
  have HLN := hid (idsT_len n 25)
  generalize sigT n = R at *
  generalize idsT n 25 = L at *
  clear hn
  go_enter Tryd.func61, Tryd.ntmps61
  go_wp2_with fail
  refine (HI1.out _).mono ?_
  rintro r w1 ⟨a, c, rfl, ho1, hk1⟩
  have HO1 := hid ho1; have HK1 := hid hk1
  clear ho1 hk1
  by_cases h0 : L = []
  · have G : Hid (R = ⟨#[45]⟩) := hid (by rw [HR.out, if_pos h0])
    have g : (L.length == 0) = true := by rw [h0]; rfl
    have g2 : ((L.length : Int) == 0) = true := by rw [h0]; rfl
    clear h0
    go_wp2
    go_ret
    exact ⟨by rw [G.out]; rfl, HK1.out⟩
  have G : Hid (R = joinB (L.map itB) 43) := hid (by rw [HR.out, if_neg h0])
  have hpos := List.length_pos_iff.2 h0
  have g : (L.length == 0) = false := by rw [beq_eq_false_iff_ne]; omega
  have g2 : ((L.length : Int) == 0) = false := by rw [beq_eq_false_iff_ne]; omega
  clear h0
  go_wp2_with fail
  clear g g2
  have hl := HLN.out
  go_loopw [4, 5] (fun v i wr => ∃ k : Nat, k ≤ L.length ∧ i = iV k ∧ v = .string (joinB ((L.take k).map itB) 43) ∧ Keep (fun _ => False) w1 wr) (fun _ i _ => L.length + 1 - (RowKit.intOf i).toNat)
  case atStart => exact ⟨0, Nat.zero_le _, rfl, rfl, Keep.refl _ _⟩
  case round =>
    obtain ⟨k, hk, rfl, rfl, hkr⟩ := hrel
    have HKR := hid hkr
    clear hkr
    by_cases hlt : k < L.length
    · obtain ⟨x, hxk⟩ : ∃ x, L[k]? = some x := ⟨L[k], by simp [hlt]⟩
      have HXX := hid (HB.out x (List.mem_of_getElem? hxk))
      have hnx := its_next hxk
      obtain ⟨g, rfl⟩ := owns_some HO1.out (by omega)
      have hio := owns_keep HO1.out (fun q hq => HKR.out.block q (HO1.out.lt q hq).2 id)
      have c0 : wr.cell? ⟨g, k, none⟩ = some (.int .i64 x) := by rw [owns_cell hio hlt, List.getElem?_map, hxk]; rfl
      have hin : (0 : Int) ≤ (k : Int) ∧ (k : Int) < (L.length : Int) := ⟨by omega, by omega⟩
      have hts : (itB x).size ≤ 21 := (it_little x HXX.out.1 HXX.out.2 w).1
      have hps : (joinB ((L.take k).map itB) 43).size ≤ 600 := by
        refine Nat.le_trans (joinB_size (M := 21) fun t ht => ?_) ?_
        · obtain ⟨y, hy, rfl⟩ := List.mem_map.1 ht
          have := HB.out y (List.mem_of_mem_take hy)
          exact (it_little y this.1 this.2 w).1
        · rw [List.length_map, List.length_take]; omega
      have HD := hid (fun w => rf_dig x (by have := HXX.out.1; omega) (by have := HXX.out.2; omega) w)
      clear hio hxk
      by_cases hk0 : k = 0
      · have HNX : Hid (joinB ((L.take (k + 1)).map itB) 43 = joinB ((L.take k).map itB) 43 ++ itB x) := hid (by
          rw [hnx, hk0, List.take_zero]
          show joinB [itB x] 43 = _
          rw [joinB_one]
          apply ba_inj
          rw [ByteArray.data_append, Array.toList_append]; rfl)
        have g1 : decide ((0 : Int) < (k : Int)) = false := decide_eq_false (by omega)
        have g2 : decide (0 < k) = false := decide_eq_false (by omega)
        clear hnx
        generalize joinB ((L.take k).map itB) 43 = p at *
        generalize itB x = t at *
        have y1 : ¬ (9223372036854775807 < p.size + t.size) := by omega
        clear hk0
        go_wp2_with fail
        refine (HD.out _).mono ?_
        rintro r w6 ⟨rfl, hk6⟩
        have HK6 := hid (HKR.out.trans hk6)
        clear hk6 c0
        go_wp2
        go_roundw
        case rel => exact ⟨k + 1, by omega, by go_num, by rw [HNX.out], HK6.out⟩
        case measure => simp [RowKit.intOf]; omega
      · have HNX : Hid (joinB ((L.take (k + 1)).map itB) 43 = joinB ((L.take k).map itB) 43 ++ ⟨#[43]⟩ ++ itB x) := hid (by
          rw [hnx, joinB_next _ _ (by
            intro e
            have e2 := congrArg List.length e
            rw [List.length_map, List.length_take, List.length_nil] at e2
            omega)])
        have g1 : decide ((0 : Int) < (k : Int)) = true := decide_eq_true (by omega)
        have g2 : decide (0 < k) = true := decide_eq_true (by omega)
        clear hnx
        generalize joinB ((L.take k).map itB) 43 = p at *
        generalize itB x = t at *
        have y1 : ¬ (9223372036854775807 < p.size + 1) := by omega
        have y2 : ¬ (9223372036854775807 < p.size + 1 + t.size) := by omega
        clear hk0
        go_wp2_with fail
        refine (HD.out _).mono ?_
        rintro r w6 ⟨rfl, hk6⟩
        have HK6 := hid (HKR.out.trans hk6)
        clear hk6 c0
        go_wp2
        go_roundw
        case rel => exact ⟨k + 1, by omega, by go_num, by rw [HNX.out], HK6.out⟩
        case measure => simp [RowKit.intOf]; omega
    · obtain rfl : k = L.length := by omega
      have g0 : decide ((L.length : Int) < (L.length : Int)) = false := decide_eq_false (by omega)
      rw [List.take_length]
      go_wp2
      go_ret
      exact ⟨by rw [G.out]; rfl, HK1.out.trans HKR.out⟩
end Go.Proofs.YtbnhdmalkmcalaaDoor

namespace Go.Proofs.YtbnhdmalkmcalaaDoor
open Go.RowKit Go.Proofs.Heap Go.Proofs.Sch

theorem bs_app (a b : List UInt8) : bsB a ++ bsB b = bsB (a ++ b) := ba_inj (by rw [ByteArray.data_append, Array.toList_append]; rfl)

set_option maxRecDepth 20000 in
set_option maxHeartbeats 32000000 in
theorem r_encode22 (s : VSys) (pa : Option Addr) (ca : Nat) (pc : Option Addr) (cc : Nat) (w : World) (hm : MemY s) (ha : TP w w.heap.size pa s.after) (hc : VP w w.heap.size pc s.code) :
    Calls Tryd.prog 15 #[SysV s pa ca pc cc] w fun r w' => r = .returned (.string (bsB (encL s))) ∧ Keep (fun _ => False) w w' := by
  have HTA := hid (fun (wy : World) (hk : Keep (fun _ => False) w wy) => TP.low ha (Low.keep0 hk))
  have HVC := hid (fun (wy : World) (hk : Keep (fun _ => False) w wy) => VP.low hc (Low.keep0 hk))
  have HM := hid hm
  obtain ⟨w1, hw1, hb1, hs1, hk1⟩ := box1 w (SysC s pa ca pc cc) 32
  have HK1 := hid hk1; have HS1 := hid hb1
  have HL1 := hid (fun n hn w => r_low n 1 hn (by omega) w)
  have HL4 := hid (fun n hn w => r_low n 4 hn (by omega) w)
  have HL8 := hid (fun n hn w => r_low n 8 hn (by omega) w)
  have hnm := nameB_size hm.ok.name
  have hal := hm.ok.afl
  have hcl := hm.ok.cdl
  have hwn : IntKind.u64.wrap (s.name.size : Int) = (s.name.size : Int) := u64_nat _ (by omega)
  have hws : IntKind.u64.wrap s.stage = (u64N s.stage : Int) := u64N_eq _
  have hwa : IntKind.u64.wrap (s.after.length : Int) = (s.after.length : Int) := u64_nat _ (by omega)
  have HN := hid hnm; have HAL := hid hal; have HCL := hid hcl
  clear hb1 hs1 hk1 ha hc hm
  go_enter Tryd.func15, Tryd.ntmps15
  go_upto_region 1 with fail
  rw [← hw1]
  clear hw1
  generalize w.heap.size = sb at *
  have HK2 := hid HK1.out.drew
  have HS2 : Hid (w1.drew.heap[sb]? = some (.cells (SysC s pa ca pc cc) 32 (0, 0))) := HS1
  have HLa := hid (HL1.out s.name.size (by omega))
  have HLb := hid (HL1.out (u64N s.stage) (u64N_lt _))
  have HLc := hid (HL1.out s.after.length (by omega))
  have z1 : (bsB (leL 1 s.name.size)).size = 1 := by rw [bs_size, leL_len]
  have z2 : (bsB (leL 1 (u64N s.stage))).size = 1 := by rw [bs_size, leL_len]
  have z3 : (bsB (leL 1 s.after.length)).size = 1 := by rw [bs_size, leL_len]
  have HT : Hid (⟨#[89]⟩ ++ bsB (leL 1 s.name.size) ++ s.name ++ bsB (leL 1 (u64N s.stage)) ++ bsB (leL 1 s.after.length) = bsB (leL 1 89 ++ nameL s.name ++ leL 1 (u64N s.stage) ++ leL 1 s.after.length)) := hid (by
    have e : s.name = bsB s.name.data.toList := (bs_of _).symm
    have e2 : (⟨#[89]⟩ : ByteArray) = bsB (leL 1 89) := rfl
    rw [e2]
    conv => lhs; rw [show (bsB (leL 1 89) ++ bsB (leL 1 s.name.size) ++ s.name : ByteArray) = bsB (leL 1 89) ++ bsB (leL 1 s.name.size) ++ bsB s.name.data.toList by rw [← e]]
    rw [bs_app, bs_app, bs_app, bs_app]
    unfold nameL
    simp only [List.append_assoc])
  have HZN : Hid (s.name.size ≤ 12) := hid hnm
  generalize bsB (leL 1 s.name.size) = l1 at *
  generalize bsB (leL 1 (u64N s.stage)) = l2 at *
  generalize bsB (leL 1 s.after.length) = l3 at *
  obtain ⟨sg, hsg⟩ : ∃ sg, u64N s.stage = sg := ⟨_, rfl⟩
  rw [hsg] at hws HLb HT
  have HSG := hid hsg
  clear hsg
  have y1 : ¬ (9223372036854775807 < 1 + l1.size) := by omega
  have y2 : ¬ (9223372036854775807 < 1 + l1.size + s.name.size) := by omega
  have y3 : ¬ (9223372036854775807 < 1 + l1.size + s.name.size + l2.size) := by omega
  have y4 : ¬ (9223372036854775807 < 1 + l1.size + s.name.size + l2.size + l3.size) := by omega
  clear z1 z2 z3
  refine Plan.wp_region_pl [(false, 0, []), (false, 1, []), (false, 2, []), (false, 3, []), (false, 6, []), (false, 7, []), (false, 9, []), (false, 10, []), (false, 11, []), (false, 14, []), (false, 15, []), (false, 16, []), (false, 17, []), (true, 4, [17, 16, 15, 14, 11, 10, 9, 7, 6]), (false, 5, []), (false, 8, []), (true, 12, [8, 5, 17, 16, 15, 14, 7, 6]), (false, 13, []), (true, 18, [13, 8, 5, 7, 6]), (false, 19, []), (false, 20, [])] (by as_aux_lemma => kernel_rfl) (by as_aux_lemma => kernel_rfl) ?_
  generalize w1.drew = w2 at *
  have c0 := cell_of HS2.out (i := 0) (by rfl)
  have c1 := cell_of HS2.out (i := 1) (by rfl)
  have c2 := cell_of HS2.out (i := 2) (by rfl)
  have c3 := cell_of HS2.out (i := 3) (by rfl)
  have c4 := cell_of HS2.out (i := 4) (by rfl)
  have c5 := cell_of HS2.out (i := 5) (by rfl)
  iterate 13 (refine Plan.pl_st rfl ?_; go_big_quiet_step (fail); refine wpQuiet_nil ?_)
  refine Plan.pl_ac rfl ?_
  go_wp2_with fail
  refine (HLa.out w2).mono ?_
  rintro r w3 ⟨rfl, hk⟩
  have HK3 := hid (HK2.out.trans hk)
  have HS3 := hid (hk.get HS2.out id)
  clear hk c0 c1 c2 c3 c4 c5
  have c0 := cell_of HS3.out (i := 0) (by rfl)
  have c1 := cell_of HS3.out (i := 1) (by rfl)
  have c2 := cell_of HS3.out (i := 2) (by rfl)
  have c3 := cell_of HS3.out (i := 3) (by rfl)
  have c4 := cell_of HS3.out (i := 4) (by rfl)
  have c5 := cell_of HS3.out (i := 5) (by rfl)
  go_wp2
  refine Plan.plQ_mk ?_ ?_
  · iterate 9 (refine Plan.chk_st rfl ?_ ?_; focus (go_big_quiet_step (fail); exact wpQuiet_nil rfl))
    exact Plan.chk_end
  iterate 2 (refine Plan.pl_st rfl ?_; go_big_quiet_step (fail); refine wpQuiet_nil ?_)
  refine Plan.pl_ac rfl ?_
  go_wp2_with fail
  refine (HLb.out w3).mono ?_
  rintro r w4 ⟨rfl, hk⟩
  have HK4 := hid (HK3.out.trans hk)
  have HS4 := hid (hk.get HS3.out id)
  clear hk c0 c1 c2 c3 c4 c5
  have c0 := cell_of HS4.out (i := 0) (by rfl)
  have c1 := cell_of HS4.out (i := 1) (by rfl)
  have c2 := cell_of HS4.out (i := 2) (by rfl)
  have c3 := cell_of HS4.out (i := 3) (by rfl)
  have c4 := cell_of HS4.out (i := 4) (by rfl)
  have c5 := cell_of HS4.out (i := 5) (by rfl)
  go_wp2
  refine Plan.plQ_mk ?_ ?_
  · iterate 8 (refine Plan.chk_st rfl ?_ ?_; focus (go_big_quiet_step (fail); exact wpQuiet_nil rfl))
    exact Plan.chk_end
  iterate 1 (refine Plan.pl_st rfl ?_; go_big_quiet_step (fail); refine wpQuiet_nil ?_)
  refine Plan.pl_ac rfl ?_
  go_wp2_with fail
  refine (HLc.out w4).mono ?_
  rintro r w5 ⟨rfl, hk⟩
  have HK5 := hid (HK4.out.trans hk)
  have HS5 := hid (hk.get HS4.out id)
  clear hk c0 c1 c2 c3 c4 c5
  have c0 := cell_of HS5.out (i := 0) (by rfl)
  have c1 := cell_of HS5.out (i := 1) (by rfl)
  have c2 := cell_of HS5.out (i := 2) (by rfl)
  have c3 := cell_of HS5.out (i := 3) (by rfl)
  have c4 := cell_of HS5.out (i := 4) (by rfl)
  have c5 := cell_of HS5.out (i := 5) (by rfl)
  go_wp2
  refine Plan.plQ_mk ?_ ?_
  · iterate 5 (refine Plan.chk_st rfl ?_ ?_; focus (go_big_quiet_step (fail); exact wpQuiet_nil rfl))
    exact Plan.chk_end
  iterate 2 (refine Plan.pl_st rfl ?_; go_big_quiet_step (fail); refine wpQuiet_nil ?_)
  refine Plan.pl_end ?_
  rw [HT.out]
  clear y1 y2 y3 y4 c0 c1 c2 c3 c4 c5 HT HLa HLb HLc hwn hws hwa
  have hT1 : (leL 1 89 ++ nameL s.name ++ leL 1 sg ++ leL 1 s.after.length).length ≤ 40 := by
    simp only [List.length_append, leL_len, nameL_len]; have := HN.out; omega
  have HTX : Hid (∀ T2, leL 1 89 ++ nameL s.name ++ leL 1 sg ++ leL 1 s.after.length = T2 → T2 ++ s.after.flatMap nameL ++ leL 4 s.all ++ leL 4 s.none ++ leL 1 s.code.length ++ s.code.flatMap opL = encL s) := hid (fun T2 h => by
    rw [← h, ← HSG.out]; rfl)
  generalize leL 1 89 ++ nameL s.name ++ leL 1 sg ++ leL 1 s.after.length = T1 at *
  have HTE := hid (HTX.out T1 rfl)
  have HT1 := hid hT1
  clear HTX hT1
  have hal := HAL.out
  go_wp2_with fail
  go_loopw [3, 4] (fun v i wr => ∃ k : Nat, k ≤ s.after.length ∧ i = iV k ∧ v = .string (bsB (T1 ++ (s.after.take k).flatMap nameL)) ∧ Keep (fun _ => False) w5 wr) (fun _ i _ => s.after.length + 1 - (RowKit.intOf i).toNat)
  case atStart => exact ⟨0, Nat.zero_le _, rfl, by simp, Keep.refl _ _⟩
  case round =>
    obtain ⟨k, hk, rfl, rfl, hkr⟩ := hrel
    have HKR := hid (HK5.out.trans hkr); have HSR := hid (hkr.get HS5.out id); have HKL := hid hkr
    have c2 : wr.cell? ⟨sb, 2, none⟩ = some (.slice pa s.after.length ca) := cell_of HSR.out (i := 2) (by rfl)
    clear hkr
    by_cases hlt : k < s.after.length
    · obtain ⟨t, ht⟩ : ∃ t, s.after[k]? = some t := ⟨s.after[k], by simp [hlt]⟩
      have hts := nameB_size (HM.out.ok.afn (List.mem_of_getElem? ht))
      have HFL := hid (aftL_len HM.out.ok k)
      have HNX : Hid (bsB (T1 ++ (s.after.take k).flatMap nameL) ++ bsB (leL 1 t.size) ++ t = bsB (T1 ++ (s.after.take (k + 1)).flatMap nameL)) := hid (by
        have e : t = bsB t.data.toList := (bs_of _).symm
        rw [flat_next nameL ht]
        conv => lhs; rw [e]
        rw [bs_size, bs_app, bs_app]
        unfold nameL
        simp only [List.append_assoc]
        rw [show t.data.toList.length = t.size from Array.length_toList])
      have hps : (bsB (T1 ++ (s.after.take k).flatMap nameL)).size ≤ 100 := by
        rw [bs_size, List.length_append]; have := HT1.out; have := HFL.out; omega
      have HLa : Hid (∀ w, Calls Tryd.prog 55 #[.int .u64 (t.size : Int), .int .i64 ((1 : Nat) : Int)] w fun r w' => r = .returned (.string (bsB (leL 1 t.size))) ∧ Keep (fun _ => False) w w') := hid (HL1.out t.size (by omega))
      have z1 : (bsB (leL 1 t.size)).size = 1 := by rw [bs_size, leL_len]
      have hwt : IntKind.u64.wrap (t.size : Int) = (t.size : Int) := u64_nat _ (by omega)
      obtain ⟨b, off, rfl, hb2, d0⟩ := TP.at (HTA.out wr.drew HKR.out.drew) ht
      have hin : (0 : Int) ≤ (k : Int) ∧ (k : Int) < (s.after.length : Int) := ⟨by omega, by omega⟩
      have HTT := hid (fun wy hk => (TP.at (HTA.out wy hk) ht))
      clear ht hb2
      generalize bsB (leL 1 t.size) = l1 at *
      generalize bsB (T1 ++ (s.after.take k).flatMap nameL) = pt at *
      have y1 : ¬ (9223372036854775807 < pt.size + l1.size) := by omega
      have y2 : ¬ (9223372036854775807 < pt.size + l1.size + t.size) := by omega
      clear z1 hps hts
      go_upto_region 5 with fail
      have HK6 := hid HKR.out.drew
      have HS6 : Hid (wr.drew.heap[sb]? = some (.cells (SysC s (some ⟨b, off, none⟩) ca pc cc) 32 (0, 0))) := HSR
      have HKD := hid HKL.out.drew
      clear c2
      refine Plan.wp_region_pl [(false, 0, []), (false, 1, []), (false, 2, []), (false, 3, []), (false, 4, []), (false, 5, []), (false, 6, []), (false, 7, []), (false, 10, []), (false, 11, []), (false, 12, []), (false, 13, []), (false, 14, []), (true, 8, [14, 13, 12, 11, 10, 0]), (false, 9, []), (false, 15, []), (true, 16, [])] (by as_aux_lemma => kernel_rfl) (by as_aux_lemma => kernel_rfl) ?_
      generalize wr.drew = w6 at *
      have c2 : w6.cell? ⟨sb, 2, none⟩ = some (.slice (some ⟨b, off, none⟩) s.after.length ca) := cell_of HS6.out (i := 2) (by rfl)
      iterate 13 (refine Plan.pl_st rfl ?_; go_big_quiet_step (fail); refine wpQuiet_nil ?_)
      refine Plan.pl_ac rfl ?_
      go_wp2_with fail
      refine (HLa.out w6).mono ?_
      rintro r w7 ⟨rfl, hk7⟩
      have HK7 := hid (HK6.out.trans hk7); have HKD7 := hid (HKD.out.trans hk7)
      have HS7 := hid (hk7.get HS6.out id)
      clear hk7 c2 d0
      have c2 : w7.cell? ⟨sb, 2, none⟩ = some (.slice (some ⟨b, off, none⟩) s.after.length ca) := cell_of HS7.out (i := 2) (by rfl)
      obtain ⟨b', off', hbo, _, d0⟩ := HTT.out w7 HK7.out
      obtain ⟨rfl, rfl⟩ : b = b' ∧ off = off' := by simpa using hbo
      go_wp2
      refine Plan.plQ_mk ?_ ?_
      · iterate 6 (refine Plan.chk_st rfl ?_ ?_; focus (go_big_quiet_step (fail); exact wpQuiet_nil rfl))
        exact Plan.chk_end
      iterate 2 (refine Plan.pl_st rfl ?_; go_big_quiet_step (fail); refine wpQuiet_nil ?_)
      refine Plan.pl_ac rfl ?_
      go_wp2
      refine Plan.plQ_mk Plan.chk_end ?_
      refine Plan.pl_end ?_
      rw [HNX.out]
      clear y1 y2 d0 c2 hwt
      go_wp2
      go_roundw
      case rel => exact ⟨k + 1, by omega, by go_num, rfl, HKD7.out⟩
      case measure => simp [RowKit.intOf]; omega
    · obtain rfl : k = s.after.length := by omega
      have g0 : decide ((s.after.length : Int) < (s.after.length : Int)) = false := decide_eq_false (by omega)
      rw [List.take_length]
      have HFL := hid (aftL_len HM.out.ok s.after.length)
      rw [List.take_length] at HFL
      obtain ⟨T2, hT2⟩ : ∃ T2, T1 ++ s.after.flatMap nameL = T2 := ⟨_, rfl⟩
      have HT2 : Hid (T2.length ≤ 100) := hid (by rw [← hT2, List.length_append]; have := HT1.out; have := HFL.out; omega)
      rw [hT2] at HTE ⊢
      clear hT2
      have hps : (bsB T2).size ≤ 100 := by rw [bs_size]; exact HT2.out
      have HNX : Hid (bsB T2 ++ bsB (leL 4 s.all) ++ bsB (leL 4 s.none) ++ bsB (leL 1 s.code.length) = bsB (T2 ++ leL 4 s.all ++ leL 4 s.none ++ leL 1 s.code.length)) := hid (by rw [bs_app, bs_app, bs_app])
      have h1 := HM.out.all
      have h2 := HM.out.none
      have HLa : Hid (∀ w, Calls Tryd.prog 55 #[.int .u64 (s.all : Int), .int .i64 ((4 : Nat) : Int)] w fun r w' => r = .returned (.string (bsB (leL 4 s.all))) ∧ Keep (fun _ => False) w w') := hid (HL4.out s.all (by omega))
      have HLb : Hid (∀ w, Calls Tryd.prog 55 #[.int .u64 (s.none : Int), .int .i64 ((4 : Nat) : Int)] w fun r w' => r = .returned (.string (bsB (leL 4 s.none))) ∧ Keep (fun _ => False) w w') := hid (HL4.out s.none (by omega))
      have HLc : Hid (∀ w, Calls Tryd.prog 55 #[.int .u64 (s.code.length : Int), .int .i64 ((1 : Nat) : Int)] w fun r w' => r = .returned (.string (bsB (leL 1 s.code.length))) ∧ Keep (fun _ => False) w w') := hid (HL1.out s.code.length (by have := HCL.out; omega))
      have z1 : (bsB (leL 4 s.all)).size = 4 := by rw [bs_size, leL_len]
      have z2 : (bsB (leL 4 s.none)).size = 4 := by rw [bs_size, leL_len]
      have z3 : (bsB (leL 1 s.code.length)).size = 1 := by rw [bs_size, leL_len]
      have hwa : IntKind.u64.wrap (s.all : Int) = (s.all : Int) := u64_nat _ (by omega)
      have hwb : IntKind.u64.wrap (s.none : Int) = (s.none : Int) := u64_nat _ (by omega)
      have hwc : IntKind.u64.wrap (s.code.length : Int) = (s.code.length : Int) := u64_nat _ (by have := HCL.out; omega)
      generalize bsB (leL 4 s.all) = l1 at *
      generalize bsB (leL 4 s.none) = l2 at *
      generalize bsB (leL 1 s.code.length) = l3 at *
      obtain ⟨pt, hpt⟩ : ∃ pt, bsB T2 = pt := ⟨_, rfl⟩
      rw [hpt] at HNX hps ⊢
      clear hpt
      have y1 : ¬ (9223372036854775807 < pt.size + l1.size) := by omega
      have y2 : ¬ (9223372036854775807 < pt.size + l1.size + l2.size) := by omega
      have y3 : ¬ (9223372036854775807 < pt.size + l1.size + l2.size + l3.size) := by omega
      clear z1 z2 z3 hps h1 h2
      go_upto_region 6 with fail
      have HK6 := hid HKR.out.drew
      have HS6 : Hid (wr.drew.heap[sb]? = some (.cells (SysC s pa ca pc cc) 32 (0, 0))) := HSR
      clear c2 g0
      refine Plan.wp_region_pl [(false, 0, []), (false, 1, []), (false, 2, []), (false, 3, []), (false, 6, []), (false, 7, []), (false, 8, []), (false, 11, []), (false, 12, []), (false, 13, []), (false, 14, []), (true, 4, [14, 13, 12, 11, 8, 7, 6, 0]), (false, 5, []), (true, 9, [5, 14, 13, 12, 11, 0]), (false, 10, []), (true, 15, [10, 5, 0]), (false, 16, []), (true, 17, [])] (by as_aux_lemma => kernel_rfl) (by as_aux_lemma => kernel_rfl) ?_
      generalize wr.drew = w6 at *
      have c0 := cell_of HS6.out (i := 0) (by rfl)
      have c1 := cell_of HS6.out (i := 1) (by rfl)
      have c2 := cell_of HS6.out (i := 2) (by rfl)
      have c3 := cell_of HS6.out (i := 3) (by rfl)
      have c4 := cell_of HS6.out (i := 4) (by rfl)
      have c5 := cell_of HS6.out (i := 5) (by rfl)
      iterate 11 (refine Plan.pl_st rfl ?_; go_big_quiet_step (fail); refine wpQuiet_nil ?_)
      refine Plan.pl_ac rfl ?_
      go_wp2_with fail
      refine (HLa.out w6).mono ?_
      rintro r w7 ⟨rfl, hk⟩
      have HK7 := hid (HK6.out.trans hk)
      have HS7 := hid (hk.get HS6.out id)
      clear hk c0 c1 c2 c3 c4 c5
      have c0 := cell_of HS7.out (i := 0) (by rfl)
      have c1 := cell_of HS7.out (i := 1) (by rfl)
      have c2 := cell_of HS7.out (i := 2) (by rfl)
      have c3 := cell_of HS7.out (i := 3) (by rfl)
      have c4 := cell_of HS7.out (i := 4) (by rfl)
      have c5 := cell_of HS7.out (i := 5) (by rfl)
      go_wp2
      refine Plan.plQ_mk ?_ ?_
      · iterate 8 (refine Plan.chk_st rfl ?_ ?_; focus (go_big_quiet_step (fail); exact wpQuiet_nil rfl))
        exact Plan.chk_end
      iterate 1 (refine Plan.pl_st rfl ?_; go_big_quiet_step (fail); refine wpQuiet_nil ?_)
      refine Plan.pl_ac rfl ?_
      go_wp2_with fail
      refine (HLb.out w7).mono ?_
      rintro r w8 ⟨rfl, hk⟩
      have HK8 := hid (HK7.out.trans hk)
      have HS8 := hid (hk.get HS7.out id)
      clear hk c0 c1 c2 c3 c4 c5
      have c0 := cell_of HS8.out (i := 0) (by rfl)
      have c1 := cell_of HS8.out (i := 1) (by rfl)
      have c2 := cell_of HS8.out (i := 2) (by rfl)
      have c3 := cell_of HS8.out (i := 3) (by rfl)
      have c4 := cell_of HS8.out (i := 4) (by rfl)
      have c5 := cell_of HS8.out (i := 5) (by rfl)
      go_wp2
      refine Plan.plQ_mk ?_ ?_
      · iterate 6 (refine Plan.chk_st rfl ?_ ?_; focus (go_big_quiet_step (fail); exact wpQuiet_nil rfl))
        exact Plan.chk_end
      iterate 1 (refine Plan.pl_st rfl ?_; go_big_quiet_step (fail); refine wpQuiet_nil ?_)
      refine Plan.pl_ac rfl ?_
      go_wp2_with fail
      refine (HLc.out w8).mono ?_
      rintro r w9 ⟨rfl, hk⟩
      have HK9 := hid (HK8.out.trans hk)
      have HS9 := hid (hk.get HS8.out id)
      clear hk c0 c1 c2 c3 c4 c5
      have c0 := cell_of HS9.out (i := 0) (by rfl)
      have c1 := cell_of HS9.out (i := 1) (by rfl)
      have c2 := cell_of HS9.out (i := 2) (by rfl)
      have c3 := cell_of HS9.out (i := 3) (by rfl)
      have c4 := cell_of HS9.out (i := 4) (by rfl)
      have c5 := cell_of HS9.out (i := 5) (by rfl)
      go_wp2
      refine Plan.plQ_mk ?_ ?_
      · iterate 3 (refine Plan.chk_st rfl ?_ ?_; focus (go_big_quiet_step (fail); exact wpQuiet_nil rfl))
        exact Plan.chk_end
      iterate 1 (refine Plan.pl_st rfl ?_; go_big_quiet_step (fail); refine wpQuiet_nil ?_)
      refine Plan.pl_ac rfl ?_
      go_wp2
      refine Plan.plQ_mk Plan.chk_end ?_
      refine Plan.pl_end ?_
      rw [HNX.out]
      clear y1 y2 y3 c0 c1 c2 c3 c4 c5 hwa hwb hwc
      obtain ⟨T3, hT3⟩ : ∃ T3, T2 ++ leL 4 s.all ++ leL 4 s.none ++ leL 1 s.code.length = T3 := ⟨_, rfl⟩
      have HT3 : Hid (T3.length ≤ 120) := hid (by rw [← hT3]; simp only [List.length_append, leL_len]; have := HT2.out; omega)
      rw [hT3] at HTE ⊢
      clear hT3
      go_wp2_with fail
      have hcl := HCL.out
      go_loopw [3, 5, 6] (fun v i _ wr => ∃ k : Nat, k ≤ s.code.length ∧ i = iV k ∧ v = .string (bsB (T3 ++ (s.code.take k).flatMap opL)) ∧ Keep (fun _ => False) w9 wr) (fun _ i _ _ => s.code.length + 1 - (RowKit.intOf i).toNat)
      case atStart => exact ⟨0, Nat.zero_le _, rfl, by simp, Keep.refl _ _⟩
      case round =>
        obtain ⟨k, hk, rfl, rfl, hkr⟩ := hrel
        have HKR := hid (HK9.out.trans hkr); have HSR := hid (hkr.get HS9.out id); have HKL := hid hkr
        have c5 : wr.cell? ⟨sb, 5, none⟩ = some (.slice pc s.code.length cc) := cell_of HSR.out (i := 5) (by rfl)
        clear hkr
        by_cases hlt : k < s.code.length
        · obtain ⟨x, hx⟩ : ∃ x, s.code[k]? = some x := ⟨s.code[k], by simp [hlt]⟩
          have HFL := hid (codL_len HM.out.ok k)
          have hps : (bsB (T3 ++ (s.code.take k).flatMap opL)).size ≤ 1000 := by
            rw [bs_size, List.length_append]; have := HT3.out; have := HFL.out; omega
          obtain ⟨l1, z1, HLa, hl1⟩ : ∃ l : ByteArray, l.size = 1 ∧ Hid (∀ w, Calls Tryd.prog 55 #[.int .u64 (u64N x.code : Int), .int .i64 ((1 : Nat) : Int)] w fun r w' => r = .returned (.string l) ∧ Keep (fun _ => False) w w') ∧ Hid (bsB (leL 1 (u64N x.code)) = l) := ⟨_, by rw [bs_size, leL_len], hid (HL1.out (u64N x.code) (u64N_lt _)), hid rfl⟩
          obtain ⟨l2, z2, HLb, hl2⟩ : ∃ l : ByteArray, l.size = 1 ∧ Hid (∀ w, Calls Tryd.prog 55 #[.int .u64 (u64N x.a : Int), .int .i64 ((1 : Nat) : Int)] w fun r w' => r = .returned (.string l) ∧ Keep (fun _ => False) w w') ∧ Hid (bsB (leL 1 (u64N x.a)) = l) := ⟨_, by rw [bs_size, leL_len], hid (HL1.out (u64N x.a) (u64N_lt _)), hid rfl⟩
          obtain ⟨l3, z3, HLc, hl3⟩ : ∃ l : ByteArray, l.size = 1 ∧ Hid (∀ w, Calls Tryd.prog 55 #[.int .u64 (u64N x.b : Int), .int .i64 ((1 : Nat) : Int)] w fun r w' => r = .returned (.string l) ∧ Keep (fun _ => False) w w') ∧ Hid (bsB (leL 1 (u64N x.b)) = l) := ⟨_, by rw [bs_size, leL_len], hid (HL1.out (u64N x.b) (u64N_lt _)), hid rfl⟩
          obtain ⟨l4, z4, HLd, hl4⟩ : ∃ l : ByteArray, l.size = 1 ∧ Hid (∀ w, Calls Tryd.prog 55 #[.int .u64 (u64N x.c : Int), .int .i64 ((1 : Nat) : Int)] w fun r w' => r = .returned (.string l) ∧ Keep (fun _ => False) w w') ∧ Hid (bsB (leL 1 (u64N x.c)) = l) := ⟨_, by rw [bs_size, leL_len], hid (HL1.out (u64N x.c) (u64N_lt _)), hid rfl⟩
          obtain ⟨l5, z5, HLe, hl5⟩ : ∃ l : ByteArray, l.size = 8 ∧ Hid (∀ w, Calls Tryd.prog 55 #[.int .u64 (u64N x.k : Int), .int .i64 ((8 : Nat) : Int)] w fun r w' => r = .returned (.string l) ∧ Keep (fun _ => False) w w') ∧ Hid (bsB (leL 8 (u64N x.k)) = l) := ⟨_, by rw [bs_size, leL_len], hid (HL8.out (u64N x.k) (u64N_lt _)), hid rfl⟩
          have HNX : Hid (bsB (T3 ++ (s.code.take k).flatMap opL) ++ l1 ++ l2 ++ l3 ++ l4 ++ l5 = bsB (T3 ++ (s.code.take (k + 1)).flatMap opL)) := hid (by
            rw [← hl1.out, ← hl2.out, ← hl3.out, ← hl4.out, ← hl5.out, flat_next opL hx, bs_app, bs_app, bs_app, bs_app, bs_app]
            unfold opL
            simp only [List.append_assoc])
          clear hl1 hl2 hl3 hl4 hl5
          have v1 : IntKind.u64.wrap x.code = (u64N x.code : Int) := u64N_eq _
          have v2 : IntKind.u64.wrap x.a = (u64N x.a : Int) := u64N_eq _
          have v3 : IntKind.u64.wrap x.b = (u64N x.b : Int) := u64N_eq _
          have v4 : IntKind.u64.wrap x.c = (u64N x.c : Int) := u64N_eq _
          have v5 : IntKind.u64.wrap x.k = (u64N x.k : Int) := u64N_eq _
          obtain ⟨b, off, rfl, hb2, d0, d1, d2, d3, d4⟩ := VP.at (HVC.out wr HKR.out) hx
          have hin : (0 : Int) ≤ (k : Int) ∧ (k : Int) < (s.code.length : Int) := ⟨by omega, by omega⟩
          clear hx hb2
          obtain ⟨wx, hwx, hbx, hsx, hkx⟩ := box1 wr (OC x) 83
          have HX2 := hid hbx
          have HKX := hid (HKR.out.trans hkx); have HKLX := hid (HKL.out.trans hkx); have HSX := hid (hkx.get HSR.out id)
          clear hbx hsx hkx
          obtain ⟨pt, hpt⟩ : ∃ pt, bsB (T3 ++ (s.code.take k).flatMap opL) = pt := ⟨_, rfl⟩
          rw [hpt] at HNX hps ⊢
          clear hpt
          have y1 : ¬ (9223372036854775807 < pt.size + l1.size) := by omega
          have y2 : ¬ (9223372036854775807 < pt.size + l1.size + l2.size) := by omega
          have y3 : ¬ (9223372036854775807 < pt.size + l1.size + l2.size + l3.size) := by omega
          have y4 : ¬ (9223372036854775807 < pt.size + l1.size + l2.size + l3.size + l4.size) := by omega
          have y5 : ¬ (9223372036854775807 < pt.size + l1.size + l2.size + l3.size + l4.size + l5.size) := by omega
          clear z1 z2 z3 z4 z5 hps
          go_upto_region 11 with fail
          rw [← hwx]
          clear hwx d0 d1 d2 d3 d4 c5
          generalize wr.heap.size = xb at *
          have HX6 : Hid (wx.drew.heap[xb]? = some (.cells (OC x) 83 (0, 0))) := HX2
          have HK6 := hid HKX.out.drew
          have HKL6 := hid HKLX.out.drew
          refine Plan.wp_region_pl [(false, 0, []), (false, 1, []), (false, 2, []), (false, 3, []), (false, 6, []), (false, 7, []), (false, 8, []), (false, 11, []), (false, 12, []), (false, 13, []), (false, 16, []), (false, 17, []), (false, 18, []), (false, 21, []), (false, 22, []), (false, 23, []), (true, 4, [23, 22, 21, 18, 17, 16, 13, 12, 11, 8, 7, 6, 0]), (false, 5, []), (true, 9, [5, 23, 22, 21, 18, 17, 16, 13, 12, 11, 0]), (false, 10, []), (true, 14, [10, 5, 23, 22, 21, 18, 17, 16, 0]), (false, 15, []), (true, 19, [15, 10, 5, 23, 22, 21, 0]), (false, 20, []), (true, 24, [20, 15, 10, 5, 0]), (false, 25, []), (true, 26, [])] (by as_aux_lemma => kernel_rfl) (by as_aux_lemma => kernel_rfl) ?_
          generalize wx.drew = w6 at *
          have e0 := cell_of HX6.out (i := 0) (by rfl)
          have e1 := cell_of HX6.out (i := 1) (by rfl)
          have e2 := cell_of HX6.out (i := 2) (by rfl)
          have e3 := cell_of HX6.out (i := 3) (by rfl)
          have e4 := cell_of HX6.out (i := 4) (by rfl)
          simp only [List.getElem_toArray, List.getElem_cons_succ, List.getElem_cons_zero] at e0 e1 e2 e3 e4
          iterate 16 (refine Plan.pl_st rfl ?_; go_big_quiet_step (fail); refine wpQuiet_nil ?_)
          refine Plan.pl_ac rfl ?_
          go_wp2_with fail
          refine (HLa.out w6).mono ?_
          rintro r wa ⟨rfl, hk7⟩
          have HKa := hid (HK6.out.trans hk7); have HKLa := hid (HKL6.out.trans hk7)
          have HXa := hid (hk7.get HX6.out id)
          clear hk7 e0 e1 e2 e3 e4
          have e0 := cell_of HXa.out (i := 0) (by rfl)
          have e1 := cell_of HXa.out (i := 1) (by rfl)
          have e2 := cell_of HXa.out (i := 2) (by rfl)
          have e3 := cell_of HXa.out (i := 3) (by rfl)
          have e4 := cell_of HXa.out (i := 4) (by rfl)
          simp only [List.getElem_toArray, List.getElem_cons_succ, List.getElem_cons_zero] at e0 e1 e2 e3 e4
          go_wp2
          refine Plan.plQ_mk ?_ ?_
          · iterate 13 (refine Plan.chk_st rfl ?_ ?_; focus (go_big_quiet_step (fail); exact wpQuiet_nil rfl))
            exact Plan.chk_end
          iterate 1 (refine Plan.pl_st rfl ?_; go_big_quiet_step (fail); refine wpQuiet_nil ?_)
          refine Plan.pl_ac rfl ?_
          go_wp2_with fail
          refine (HLb.out wa).mono ?_
          rintro r wb ⟨rfl, hk7⟩
          have HKb := hid (HKa.out.trans hk7); have HKLb := hid (HKLa.out.trans hk7)
          have HXb := hid (hk7.get HXa.out id)
          clear hk7 e0 e1 e2 e3 e4
          have e0 := cell_of HXb.out (i := 0) (by rfl)
          have e1 := cell_of HXb.out (i := 1) (by rfl)
          have e2 := cell_of HXb.out (i := 2) (by rfl)
          have e3 := cell_of HXb.out (i := 3) (by rfl)
          have e4 := cell_of HXb.out (i := 4) (by rfl)
          simp only [List.getElem_toArray, List.getElem_cons_succ, List.getElem_cons_zero] at e0 e1 e2 e3 e4
          go_wp2
          refine Plan.plQ_mk ?_ ?_
          · iterate 11 (refine Plan.chk_st rfl ?_ ?_; focus (go_big_quiet_step (fail); exact wpQuiet_nil rfl))
            exact Plan.chk_end
          iterate 1 (refine Plan.pl_st rfl ?_; go_big_quiet_step (fail); refine wpQuiet_nil ?_)
          refine Plan.pl_ac rfl ?_
          go_wp2_with fail
          refine (HLc.out wb).mono ?_
          rintro r wc ⟨rfl, hk7⟩
          have HKc := hid (HKb.out.trans hk7); have HKLc := hid (HKLb.out.trans hk7)
          have HXc := hid (hk7.get HXb.out id)
          clear hk7 e0 e1 e2 e3 e4
          have e0 := cell_of HXc.out (i := 0) (by rfl)
          have e1 := cell_of HXc.out (i := 1) (by rfl)
          have e2 := cell_of HXc.out (i := 2) (by rfl)
          have e3 := cell_of HXc.out (i := 3) (by rfl)
          have e4 := cell_of HXc.out (i := 4) (by rfl)
          simp only [List.getElem_toArray, List.getElem_cons_succ, List.getElem_cons_zero] at e0 e1 e2 e3 e4
          go_wp2
          refine Plan.plQ_mk ?_ ?_
          · iterate 9 (refine Plan.chk_st rfl ?_ ?_; focus (go_big_quiet_step (fail); exact wpQuiet_nil rfl))
            exact Plan.chk_end
          iterate 1 (refine Plan.pl_st rfl ?_; go_big_quiet_step (fail); refine wpQuiet_nil ?_)
          refine Plan.pl_ac rfl ?_
          go_wp2_with fail
          refine (HLd.out wc).mono ?_
          rintro r wd ⟨rfl, hk7⟩
          have HKd := hid (HKc.out.trans hk7); have HKLd := hid (HKLc.out.trans hk7)
          have HXd := hid (hk7.get HXc.out id)
          clear hk7 e0 e1 e2 e3 e4
          have e0 := cell_of HXd.out (i := 0) (by rfl)
          have e1 := cell_of HXd.out (i := 1) (by rfl)
          have e2 := cell_of HXd.out (i := 2) (by rfl)
          have e3 := cell_of HXd.out (i := 3) (by rfl)
          have e4 := cell_of HXd.out (i := 4) (by rfl)
          simp only [List.getElem_toArray, List.getElem_cons_succ, List.getElem_cons_zero] at e0 e1 e2 e3 e4
          go_wp2
          refine Plan.plQ_mk ?_ ?_
          · iterate 7 (refine Plan.chk_st rfl ?_ ?_; focus (go_big_quiet_step (fail); exact wpQuiet_nil rfl))
            exact Plan.chk_end
          iterate 1 (refine Plan.pl_st rfl ?_; go_big_quiet_step (fail); refine wpQuiet_nil ?_)
          refine Plan.pl_ac rfl ?_
          go_wp2_with fail
          refine (HLe.out wd).mono ?_
          rintro r we ⟨rfl, hk7⟩
          have HKe := hid (HKd.out.trans hk7); have HKLe := hid (HKLd.out.trans hk7)
          have HXe := hid (hk7.get HXd.out id)
          clear hk7 e0 e1 e2 e3 e4
          have e0 := cell_of HXe.out (i := 0) (by rfl)
          have e1 := cell_of HXe.out (i := 1) (by rfl)
          have e2 := cell_of HXe.out (i := 2) (by rfl)
          have e3 := cell_of HXe.out (i := 3) (by rfl)
          have e4 := cell_of HXe.out (i := 4) (by rfl)
          simp only [List.getElem_toArray, List.getElem_cons_succ, List.getElem_cons_zero] at e0 e1 e2 e3 e4
          go_wp2
          refine Plan.plQ_mk ?_ ?_
          · iterate 5 (refine Plan.chk_st rfl ?_ ?_; focus (go_big_quiet_step (fail); exact wpQuiet_nil rfl))
            exact Plan.chk_end
          iterate 1 (refine Plan.pl_st rfl ?_; go_big_quiet_step (fail); refine wpQuiet_nil ?_)
          refine Plan.pl_ac rfl ?_
          go_wp2
          refine Plan.plQ_mk Plan.chk_end ?_
          refine Plan.pl_end ?_
          rw [HNX.out]
          clear y1 y2 y3 y4 y5 v1 v2 v3 v4 v5 e0 e1 e2 e3 e4
          go_wp2
          go_roundw
          case rel => exact ⟨k + 1, by omega, by go_num, rfl, HKLe.out⟩
          case measure => simp [RowKit.intOf]; omega
        · obtain rfl : k = s.code.length := by omega
          have g0 : decide ((s.code.length : Int) < (s.code.length : Int)) = false := decide_eq_false (by omega)
          rw [List.take_length, HTE.out]
          go_wp2
          go_ret
          exact ⟨rfl, HKR.out⟩
end Go.Proofs.YtbnhdmalkmcalaaDoor
