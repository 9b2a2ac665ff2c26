/- What is proved: what Sign, check, fit, Neg of the great numbers answer, whatever they are handed. -/
import Derived.Test.YtlhdofkgcbmnnaaGreatMWide2
import Derived.Test.YtlhdofkgcbmnnaaGreatMMapStr
import Derived.Test.YtlhdofkgcbmnnaaGreatMLay
import Derived.Shelf.Spec.BitsCarry
import Derived.Test.YtlhdofkgcbmnnaaGreatMRegion
namespace Go.Proofs.Wide
/-- A number of a sign and a size. -/
def ofM (ng : Bool) (m : Nat) : WI := ⟨ng && decide (m ≠ 0), m / 18446744073709551616, m % 18446744073709551616⟩
abbrev zW : WI := ⟨false, 0, 0⟩
/-- A number of a size, or too great. -/
def fitW (ng : Bool) (m : Nat) : WI × Nat := if m < 170141183460469231731687303715884105728 then (ofM ng m, 0) else (zW, 3)
def sgnW (x : WI) : Int := if x.form = true ∧ x.mag ≠ 0 then (if x.neg = true then -1 else 1) else 0
def badW (x y : WI) (d : Bool) : Bool := !x.form || !y.form || (d && decide (y.mag = 0))
def negW (x : WI) : WI := if x.form = true then ofM (!x.neg) x.mag else zW
theorem mag_lt {x : WI} (h : x.fit) : x.mag < 340282366920938463463374607431768211456 := by
  obtain ⟨h1, h2⟩ := h
  unfold WI.mag; omega
theorem mag_form {x : WI} (h : x.fit) (hf : x.form = true) : x.mag < 170141183460469231731687303715884105728 := by
  unfold WI.form at hf
  rw [Bool.and_eq_true, decide_eq_true_eq] at hf
  have := h.2
  unfold WI.mag; omega
theorem mag_hi {x : WI} (h : x.fit) : x.mag / 18446744073709551616 = x.hi ∧ x.mag % 18446744073709551616 = x.lo := by
  have := h.2
  unfold WI.mag; omega
theorem ofM_fit (ng : Bool) {m : Nat} (h : m < 340282366920938463463374607431768211456) : (ofM ng m).fit := by
  unfold ofM WI.fit; simp only; omega
theorem ofM_mag (ng : Bool) (m : Nat) : (ofM ng m).mag = m := by
  unfold ofM WI.mag; simp only; omega
theorem ofM_form (ng : Bool) {m : Nat} (h : m < 170141183460469231731687303715884105728) : (ofM ng m).form = true := by
  unfold WI.form
  rw [ofM_mag]
  unfold ofM
  rw [Bool.and_eq_true, decide_eq_true_eq]
  refine ⟨by simp only; omega, ?_⟩
  cases ng
  · rfl
  · by_cases h : m = 0
    · simp [h]
    · simp [h]
theorem zW_fit : zW.fit := ⟨by decide, by decide⟩
theorem fitW_fit (ng : Bool) (m : Nat) : (fitW ng m).1.fit := by
  unfold fitW
  split
  · exact ofM_fit ng (by omega)
  · exact zW_fit
theorem negW_fit {x : WI} (h : x.fit) : (negW x).fit := by
  unfold negW
  split
  · exact ofM_fit _ (mag_lt h)
  · exact zW_fit
end Go.Proofs.Wide
namespace Go.Proofs.YtlhdofkgcbmnnaaGreat
open Go.RowKit Go.Proofs.Heap Go.Proofs.Wide

theorem norm_of (ng : Bool) {hi lo : Nat} (h : lo < 18446744073709551616) : normW ng hi lo = ofM ng (hi * 18446744073709551616 + lo) := by
  have e1 : (hi * 18446744073709551616 + lo) / 18446744073709551616 = hi := by omega
  have e2 : (hi * 18446744073709551616 + lo) % 18446744073709551616 = lo := by omega
  unfold normW ofM
  rw [e1, e2]
set_option maxRecDepth 20000 in
set_option maxHeartbeats 4000000 in
theorem w_sign (x : WI) (hx : x.fit) (w : World) : Calls Tryz.prog 161 #[WV x] w fun r w' => r = .returned (.int .i64 (sgnW x)) ∧ Keep (fun _ => False) w w' := by
  obtain ⟨w1, hw1, hb1, hs1, hk1⟩ := box1 w (WC x) 86
  have HK1 := hid hk1; have HB1 := hid hb1
  have HF := hid (w_form x hx w1)
  obtain ⟨z, hz, hz0⟩ := or_zero x.hi x.lo hx.1 hx.2
  have HZ : Hid (z = 0 ↔ x.mag = 0) := hid (by rw [hz0]; unfold WI.mag; omega)
  have HS : Hid (sgnW x = if x.form = true ∧ x.mag ≠ 0 then (if x.neg = true then -1 else 1) else 0) := hid rfl
  have a0 := cell_of hb1 (i := 0) (by rfl)
  have a1 := cell_of hb1 (i := 1) (by rfl)
  have a2 := cell_of hb1 (i := 2) (by rfl)
  clear hb1 hs1 hk1 hz0 hx
  go_enter Tryz.func161, Tryz.ntmps161
  go_upto_block 0 with fail
  rw [← hw1]
  clear hw1
  generalize w.heap.size = sb at *
  go_wp2_with fail
  refine HF.out.mono ?_
  rintro r w2 ⟨rfl, hk⟩
  have HK2 := hid (HK1.out.trans hk); have HB2 := hid (hk.get HB1.out id)
  clear hk a0 a1 a2
  have a0 := cell_of HB2.out (i := 0) (by rfl)
  have a1 := cell_of HB2.out (i := 1) (by rfl)
  have a2 := cell_of HB2.out (i := 2) (by rfl)
  cases hf : x.form
  · have G : Hid (sgnW x = 0) := hid (by rw [HS.out, hf]; rfl)
    clear hf
    go_wp2
    go_ret
    exact ⟨by rw [G.out]; rfl, HK2.out⟩
  · by_cases hm : z = 0
    · have G : Hid (sgnW x = 0) := hid (by rw [HS.out, if_neg]; rintro ⟨_, h⟩; exact h (HZ.out.1 hm))
      have g1 : ((z : Int) == 0) = true := by rw [hm]; rfl
      clear hf hm
      go_wp2
      go_ret
      exact ⟨by rw [G.out]; rfl, HK2.out⟩
    · have hs := HS.out
      rw [if_pos ⟨hf, fun h => hm (HZ.out.2 h)⟩] at hs
      have g1 : ((z : Int) == 0) = false := by rw [beq_eq_false_iff_ne]; omega
      cases hn : x.neg
      · have G : Hid (sgnW x = 1) := hid (by rw [hs]; simp [hn])
        clear a0
        have a0 : w2.cell? ⟨sb, 0, none⟩ = some (.bool x.neg) := cell_of HB2.out (by rfl)
        rw [hn] at a0
        clear hf hm hs hn
        go_wp2
        go_ret
        exact ⟨by rw [G.out]; rfl, HK2.out⟩
      · have G : Hid (sgnW x = -1) := hid (by rw [hs]; simp [hn])
        clear a0
        have a0 : w2.cell? ⟨sb, 0, none⟩ = some (.bool x.neg) := cell_of HB2.out (by rfl)
        rw [hn] at a0
        clear hf hm hs hn
        go_wp2
        go_ret
        exact ⟨by rw [G.out]; rfl, HK2.out⟩

set_option maxRecDepth 20000 in
set_option maxHeartbeats 4000000 in
theorem w_checkU (x y : WI) (d : Bool) (hx : x.fit) (hy : y.fit) (w : World) : Calls Tryz.prog 172 #[WV x, WV y, .bool d] w fun r w' => r = .returned (iV (if badW x y d = true then 1 else 0)) ∧ Keep (fun _ => False) w w' := by
  obtain ⟨w1, hw1, hb1, hb2, hs1, hk1⟩ := box2 w (WC x) (WC y) 86 86
  have HK1 := hid hk1; have HB1 := hid hb1; have HC1 := hid hb2
  have HF := hid (w_form x hx w1)
  have HG := hid (fun w => w_form y hy w)
  obtain ⟨z, hz, hz0⟩ := or_zero y.hi y.lo hy.1 hy.2
  have HZ : Hid (decide (y.mag = 0) = decide (z = 0)) := hid (by
    apply Bool.eq_iff_iff.2
    rw [decide_eq_true_iff, decide_eq_true_iff, hz0]; unfold WI.mag; omega)
  have HS : Hid (badW x y d = (!x.form || !y.form || (d && decide (y.mag = 0)))) := hid rfl
  obtain ⟨R, hR⟩ : ∃ R : Nat, (if badW x y d = true then 1 else 0) = R := ⟨_, rfl⟩
  have HR := hid hR
  rw [hR]
  clear hR
  have a0 := cell_of hb1 (i := 0) (by rfl)
  have a1 := cell_of hb1 (i := 1) (by rfl)
  have a2 := cell_of hb1 (i := 2) (by rfl)
  clear hb1 hb2 hs1 hk1 hz0 hx hy
  go_enter Tryz.func172, Tryz.ntmps172
  go_upto_region 1 with fail
  rw [← hw1]
  clear hw1
  generalize w.heap.size + 1 = sc at *
  generalize w.heap.size = sb at *
  go_wp2_with fail
  refine HF.out.mono ?_
  rintro r w2 ⟨rfl, hk⟩
  have HK2 := hid (HK1.out.trans hk); have HC2 := hid (hk.get HC1.out id)
  clear hk a0 a1 a2
  have a0 := cell_of HC2.out (i := 0) (by rfl)
  have a1 := cell_of HC2.out (i := 1) (by rfl)
  have a2 := cell_of HC2.out (i := 2) (by rfl)
  cases hf : x.form
  · have G : Hid (R = 1) := hid (by rw [← HR.out, HS.out, hf]; rfl)
    clear hf
    go_wp2
    go_ret
    exact ⟨by rw [G.out]; rfl, HK2.out⟩
  have HXF := hid hf
  clear hf
  go_wp2_with fail
  refine (HG.out _).mono ?_
  rintro r w3 ⟨rfl, hk⟩
  have HK3 := hid (HK2.out.trans hk); have HC3 := hid (hk.get HC2.out id)
  clear hk a0 a1 a2
  have a0 := cell_of HC3.out (i := 0) (by rfl)
  have a1 := cell_of HC3.out (i := 1) (by rfl)
  have a2 := cell_of HC3.out (i := 2) (by rfl)
  cases hf : y.form
  · have G : Hid (R = 1) := hid (by rw [← HR.out, HS.out, HXF.out, hf]; rfl)
    clear hf
    go_wp2
    go_ret
    exact ⟨by rw [G.out]; rfl, HK3.out⟩
  have HYF := hid hf
  clear hf
  cases d
  · have G : Hid (R = 0) := hid (by rw [← HR.out, HS.out, HXF.out, HYF.out]; rfl)
    go_wp2
    go_ret
    exact ⟨by rw [G.out]; rfl, HK3.out⟩
  · by_cases hm : z = 0
    · have G : Hid (R = 1) := hid (by rw [← HR.out, HS.out, HXF.out, HYF.out, HZ.out, decide_eq_true hm]; rfl)
      have g1 : ((z : Int) == 0) = true := by rw [hm]; rfl
      clear hm
      go_wp2
      go_ret
      exact ⟨by rw [G.out]; rfl, HK3.out⟩
    · have G : Hid (R = 0) := hid (by rw [← HR.out, HS.out, HXF.out, HYF.out, HZ.out, decide_eq_false hm]; rfl)
      have g1 : ((z : Int) == 0) = false := by rw [beq_eq_false_iff_ne]; omega
      clear hm
      go_wp2
      go_ret
      exact ⟨by rw [G.out]; rfl, HK3.out⟩

set_option maxRecDepth 20000 in
set_option maxHeartbeats 4000000 in
theorem w_fitU (ng : Bool) (hi lo m : Nat) (h1 : hi < 18446744073709551616) (h2 : lo < 18446744073709551616) (hm : hi * 18446744073709551616 + lo = m) (w : World) : Calls Tryz.prog 184 #[.bool ng, .int .u64 (hi : Int), .int .u64 (lo : Int)] w fun r w' => r = .returned (.tuple #[WV (fitW ng m).1, iV (fitW ng m).2]) ∧ Keep (fun _ => False) w w' := by
  by_cases hh : hi < 9223372036854775808
  · have e : fitW ng m = (normW ng hi lo, 0) := by
      rw [norm_of ng h2, hm]
      exact if_pos (by omega)
    rw [e]
    exact w_fit ng hi lo hh h2 w
  · have e : fitW ng m = (zW, 3) := if_neg (by omega)
    rw [e]
    obtain ⟨w1, hw1, hb1, hs1, hk1⟩ := box1 w Z3 86
    have HK1 := hid hk1; have HB1 := hid hb1
    have g1 : decide ((9223372036854775808 : Int) ≤ (hi : Int)) = true := decide_eq_true (by omega)
    have c0 := cell_of hb1 (i := 0) (by rfl)
    have c1 := cell_of hb1 (i := 1) (by rfl)
    have c2 := cell_of hb1 (i := 2) (by rfl)
    have f0 := free_of hb1 0
    have f1 := free_of hb1 1
    have f2 := free_of hb1 2
    clear hb1 hs1 hk1
    go_enter Tryz.func184, Tryz.ntmps184
    go_upto_region 1 with fail
    rw [← hw1]
    clear hw1
    obtain ⟨sb, hsb⟩ : ∃ sb, w.heap.size = sb := ⟨_, rfl⟩
    have HSB := hid hsb
    rw [hsb] at HB1 c0 c1 c2 f0 f1 f2 ⊢
    clear hsb
    go_wp2
    (try simp only [Exit.inBlock, Exit.then])
    refine bodyPost_ret (results_ct rfl _ rfl (run_loadVar_row _ sb _ 86 _ _ _ (cells3 (.bool false) (.int .u64 0) (.int .u64 0) HB1.out) Tryz.underlying86 rfl (by kernel_rfl))) rfl ?_
    exact ⟨rfl, ((HK1.out.setCell_new (p := ⟨sb, 0, none⟩) (by show _ ≤ sb; have := HSB.out; omega) _).setCell_new (p := ⟨sb, 1, none⟩) (by show _ ≤ sb; have := HSB.out; omega) _).setCell_new (p := ⟨sb, 2, none⟩) (by show _ ≤ sb; have := HSB.out; omega) _⟩

set_option maxRecDepth 20000 in
set_option maxHeartbeats 4000000 in
theorem w_negU (x : WI) (hx : x.fit) (w : World) : Calls Tryz.prog 154 #[WV x] w fun r w' => r = .returned (WV (negW x)) ∧ Keep (fun _ => False) w w' := by
  cases hf : x.form
  rotate_left
  · have e : negW x = normW (!x.neg) x.hi x.lo := by
      rw [norm_of _ hx.2]
      exact if_pos hf
    rw [e]
    exact w_neg x hx hf w
  · have e : negW x = zW := if_neg (by rw [hf]; simp)
    rw [e]
    obtain ⟨w1, hw1, hb1, hb2, hs1, hk1⟩ := box2 w (WC x) Z3 86 86
    have HK1 := hid hk1; have HB1 := hid hb1; have HC1 := hid hb2
    have HF := hid (w_form x hx w1)
    rw [hf] at HF
    have a0 := cell_of hb1 (i := 0) (by rfl)
    have a1 := cell_of hb1 (i := 1) (by rfl)
    have a2 := cell_of hb1 (i := 2) (by rfl)
    clear hb1 hb2 hs1 hk1 hf hx
    go_enter Tryz.func154, Tryz.ntmps154
    go_upto_region 1 with fail
    rw [← hw1]
    clear hw1
    obtain ⟨sc, hsc⟩ : ∃ sc, w.heap.size + 1 = sc := ⟨_, rfl⟩
    have HSC : Hid (w.heap.size ≤ sc) := hid (by omega)
    rw [hsc] at HC1 ⊢
    clear hsc
    generalize hsb : w.heap.size = sb at *
    go_wp2_with fail
    refine HF.out.mono ?_
    rintro r w2 ⟨rfl, hk⟩
    have HK2 := hid (HK1.out.trans hk); have HC2 := hid (hk.get HC1.out id)
    clear hk a0 a1 a2
    have c0 := cell_of HC2.out (i := 0) (by rfl)
    have c1 := cell_of HC2.out (i := 1) (by rfl)
    have c2 := cell_of HC2.out (i := 2) (by rfl)
    have f0 := free_of HC2.out 0
    have f1 := free_of HC2.out 1
    have f2 := free_of HC2.out 2
    have HSB := hid hsb
    clear hsb
    go_wp2
    (try simp only [Exit.inBlock, Exit.then])
    refine bodyPost_ret (results_c rfl _ rfl (run_loadVar_row _ sc _ 86 _ _ _ (cells3 (.bool false) (.int .u64 0) (.int .u64 0) HC2.out) Tryz.underlying86 rfl (by kernel_rfl))) rfl ?_
    exact ⟨rfl, ((HK2.out.setCell_new (p := ⟨sc, 0, none⟩) (by show _ ≤ sc; have := HSC.out; have := HSB.out; omega) _).setCell_new (p := ⟨sc, 1, none⟩) (by show _ ≤ sc; have := HSC.out; have := HSB.out; omega) _).setCell_new (p := ⟨sc, 2, none⟩) (by show _ ≤ sc; have := HSC.out; have := HSB.out; omega) _⟩
end Go.Proofs.YtlhdofkgcbmnnaaGreat

namespace Go.Proofs.YtlhdofkgcbmnnaaGreat
open Go.RowKit Go.Proofs.Heap Go.Proofs.Wide

theorem ext_sub64 (x y c : Nat) (hc : c ≤ 1) (w : World) :
    (callFunc 185 #[.int .u64 (x : Int), .int .u64 (y : Int), .int .u64 (c : Int)]).run Tryz.prog w =
      .ok (.value (.tuple #[.int .u64 (((x + 18446744073709551616 - y - c) % 18446744073709551616 : Nat) : Int), .int .u64 ((if x < y + c then 1 else 0 : Nat) : Int)])) w := by
  rw [run_callFunc_extern Tryz.func185 (by kernel_rfl) (by kernel_rfl) (by kernel_rfl) (e := sub64Entry) (by kernel_rfl), run_sub64 x y c hc]
  simp only [Result.andThen]
set_option maxRecDepth 20000 in
set_option maxHeartbeats 8000000 in
theorem w_add_pn (a b : Nat) (hb : 0 < b) (hab : a ≤ b) (hb6 : b < 18446744073709551616) (w : World) :
    Calls Tryz.prog 148 #[WV ⟨false, 0, a⟩, WV ⟨true, 0, b⟩] w fun r w' => r = .returned (.tuple #[WV (normW true 0 (b - a)), .int .i64 0]) ∧ Keep (fun _ => False) w w' := by
  have hk0 : Keep (fun _ => False) w (((w.alloc (.cells (WC ⟨false, 0, a⟩) 86)).alloc (.cells (WC ⟨true, 0, b⟩) 86)).alloc (.cells Z3 86)) := (((Keep.refl (fun _ => False) w).alloc _).alloc _).alloc _
  have hb1 : (((w.alloc (.cells (WC ⟨false, 0, a⟩) 86)).alloc (.cells (WC ⟨true, 0, b⟩) 86)).alloc (.cells Z3 86)).heap[w.heap.size]? = some (.cells (WC ⟨false, 0, a⟩) 86 (0, 0)) := ((((Keep.refl (fun _ => False) _).alloc _).alloc _).get (heap_alloc_new w _) (fun h => h))
  have hb2 : (((w.alloc (.cells (WC ⟨false, 0, a⟩) 86)).alloc (.cells (WC ⟨true, 0, b⟩) 86)).alloc (.cells Z3 86)).heap[w.heap.size + 1]? = some (.cells (WC ⟨true, 0, b⟩) 86 (0, 0)) := by
    have := (((Keep.refl (fun _ => False) ((w.alloc (.cells (WC ⟨false, 0, a⟩) 86)).alloc (.cells (WC ⟨true, 0, b⟩) 86))).alloc (.cells Z3 86)).get (heap_alloc_new (w.alloc (.cells (WC ⟨false, 0, a⟩) 86)) (.cells (WC ⟨true, 0, b⟩) 86)) (fun h => h))
    simpa using this
  have hb3 : (((w.alloc (.cells (WC ⟨false, 0, a⟩) 86)).alloc (.cells (WC ⟨true, 0, b⟩) 86)).alloc (.cells Z3 86)).heap[w.heap.size + 2]? = some (.cells Z3 86 (0, 0)) := by
    have := heap_alloc_new ((w.alloc (.cells (WC ⟨false, 0, a⟩) 86)).alloc (.cells (WC ⟨true, 0, b⟩) 86)) (.cells Z3 86)
    simpa using this
  have HK0 := hid hk0; have HB1 := hid hb1; have HB2 := hid hb2; have HB3 := hid hb3
  clear hk0 hb1 hb2 hb3
  go_enter Tryz.func148, Tryz.ntmps148
  go_upto_region 1 with fail
  generalize (((w.alloc (.cells (WC ⟨false, 0, a⟩) 86)).alloc (.cells (WC ⟨true, 0, b⟩) 86)).alloc (.cells Z3 86)) = w0 at *
  generalize hsb : w.heap.size = sb at *
  have HSB := hid hsb
  clear hsb
  have a0 : w0.cell? ⟨sb, 0, none⟩ = some (.bool false) := cell_of HB1.out (by rfl)
  have a1 : w0.cell? ⟨sb, 1, none⟩ = some (.int .u64 ((0 : Nat) : Int)) := cell_of HB1.out (by rfl)
  have a2 : w0.cell? ⟨sb, 2, none⟩ = some (.int .u64 (a : Int)) := cell_of HB1.out (by rfl)
  have b0 : w0.cell? ⟨sb + 1, 0, none⟩ = some (.bool true) := cell_of HB2.out (by rfl)
  have b1 : w0.cell? ⟨sb + 1, 1, none⟩ = some (.int .u64 ((0 : Nat) : Int)) := cell_of HB2.out (by rfl)
  have b2 : w0.cell? ⟨sb + 1, 2, none⟩ = some (.int .u64 (b : Int)) := cell_of HB2.out (by rfl)
  have fta : WI.fit ⟨false, 0, a⟩ := ⟨(by decide : (0 : Nat) < 18446744073709551616), (by omega : a < 18446744073709551616)⟩
  have ftb : WI.fit ⟨true, 0, b⟩ := ⟨(by decide : (0 : Nat) < 18446744073709551616), (by omega : b < 18446744073709551616)⟩
  have FTA := hid fta; have FTB := hid ftb
  clear fta ftb
  go_wp2_with fail
  refine (w_check ⟨false, 0, a⟩ ⟨true, 0, b⟩ FTA.out FTB.out (pos_form a) (neg_form b hb) _).mono ?_
  rintro r w1 ⟨rfl, hk1⟩
  have HK1 := hid (HK0.out.trans hk1)
  have HB4 := hid (hk1.get HB1.out (fun h => h)); have HB5 := hid (hk1.get HB2.out (fun h => h)); have HB6 := hid (hk1.get HB3.out (fun h => h))
  clear hk1 a0 a1 a2 b0 b1 b2
  have a0 : w1.cell? ⟨sb, 0, none⟩ = some (.bool false) := cell_of HB4.out (by rfl)
  have a1 : w1.cell? ⟨sb, 1, none⟩ = some (.int .u64 ((0 : Nat) : Int)) := cell_of HB4.out (by rfl)
  have a2 : w1.cell? ⟨sb, 2, none⟩ = some (.int .u64 (a : Int)) := cell_of HB4.out (by rfl)
  have b0 : w1.cell? ⟨sb + 1, 0, none⟩ = some (.bool true) := cell_of HB5.out (by rfl)
  have b1 : w1.cell? ⟨sb + 1, 1, none⟩ = some (.int .u64 ((0 : Nat) : Int)) := cell_of HB5.out (by rfl)
  have b2 : w1.cell? ⟨sb + 1, 2, none⟩ = some (.int .u64 (b : Int)) := cell_of HB5.out (by rfl)
  go_wp2_with fail
  refine (w_size ⟨false, 0, a⟩ ⟨true, 0, b⟩ FTA.out FTB.out _).mono ?_
  rintro r w2 ⟨rfl, hk2⟩
  have HK2 := hid (HK1.out.trans hk2)
  have HB7 := hid (hk2.get HB4.out (fun h => h)); have HB8 := hid (hk2.get HB5.out (fun h => h)); have HB9 := hid (hk2.get HB6.out (fun h => h))
  clear hk2 a0 a1 a2 b0 b1 b2
  have a0 : w2.cell? ⟨sb, 0, none⟩ = some (.bool false) := cell_of HB7.out (by rfl)
  have a1 : w2.cell? ⟨sb, 1, none⟩ = some (.int .u64 ((0 : Nat) : Int)) := cell_of HB7.out (by rfl)
  have a2 : w2.cell? ⟨sb, 2, none⟩ = some (.int .u64 (a : Int)) := cell_of HB7.out (by rfl)
  have b0 : w2.cell? ⟨sb + 1, 0, none⟩ = some (.bool true) := cell_of HB8.out (by rfl)
  have b1 : w2.cell? ⟨sb + 1, 1, none⟩ = some (.int .u64 ((0 : Nat) : Int)) := cell_of HB8.out (by rfl)
  have b2 : w2.cell? ⟨sb + 1, 2, none⟩ = some (.int .u64 (b : Int)) := cell_of HB8.out (by rfl)
  have fa := fun i => free_of HB7.out i
  have fb := fun i => free_of HB8.out i
  have fa0 := fa 0; have fa1 := fa 1; have fa2 := fa 2; have fb0 := fb 0; have fb1 := fb 1; have fb2 := fb 2
  clear fa fb
  by_cases hlt : a < b
  · have hc : cmpN (WI.mag ⟨false, 0, a⟩) (WI.mag ⟨true, 0, b⟩) = -1 := by
      unfold cmpN WI.mag
      simp only [Nat.zero_mul, Nat.zero_add]
      rw [if_neg (by omega), if_neg (by omega)]
    rw [hc]
    clear hc
    have q1 : ∀ wz, (callFunc 185 #[.int .u64 (b : Int), .int .u64 (a : Int), .int .u64 0]).run Tryz.prog wz = .ok (.value (.tuple #[.int .u64 ((b - a : Nat) : Int), .int .u64 ((0 : Nat) : Int)])) wz := by
      intro wz
      have := ext_sub64 b a 0 (by omega) wz
      rwa [show (b + 18446744073709551616 - a - 0) % 18446744073709551616 = b - a by omega, if_neg (by omega)] at this
    have q2 : ∀ wz, (callFunc 185 #[.int .u64 0, .int .u64 0, .int .u64 0]).run Tryz.prog wz = .ok (.value (.tuple #[.int .u64 ((0 : Nat) : Int), .int .u64 ((0 : Nat) : Int)])) wz := fun wz => ext_sub64 0 0 0 (by omega) wz
    obtain ⟨d, hd⟩ : ∃ d, b - a = d := ⟨_, rfl⟩
    have HD := hid hd
    rw [hd] at q1
    have hd6 : d < 18446744073709551616 := by omega
    clear hd hlt hab
    go_wp2_with (first | rw [q2] | rw [q1])
    refine (w_fit true 0 d (by omega) hd6 _).mono ?_
    rintro r w3 ⟨rfl, hk3⟩
    have HKC := hid ((((((((Keep.refl (fun g => g = sb ∨ g = sb + 1) w2).setCell (p := ⟨sb, 0, none⟩) (.inl rfl) _).setCell (p := ⟨sb, 1, none⟩) (.inl rfl) _).setCell (p := ⟨sb, 2, none⟩) (.inl rfl) _).setCell (p := ⟨sb + 1, 0, none⟩) (.inr rfl) _).setCell (p := ⟨sb + 1, 1, none⟩) (.inr rfl) _).setCell (p := ⟨sb + 1, 2, none⟩) (.inr rfl) _).trans (hk3.mono (fun _ _ h => h.elim)))
    clear hk3
    have HK := hid (keep_new HK2.out HKC.out (fun g hg => by have := HSB.out; rcases hg with rfl | rfl <;> omega))
    have HB := hid (HKC.out.get HB9.out (by simp))
    have HZ : Hid (normW true 0 d = normW true 0 (b - a)) := hid (by rw [HD.out])
    clear HKC
    generalize normW true 0 d = z at *
    clear a0 a1 a2 b0 b1 b2 fa0 fa1 fa2 fb0 fb1 fb2 q1 q2
    have c0 := cell_of HB.out (i := 0) (by rfl)
    have c1 := cell_of HB.out (i := 1) (by rfl)
    have c2 := cell_of HB.out (i := 2) (by rfl)
    have f0 := free_of HB.out 0
    have f1 := free_of HB.out 1
    have f2 := free_of HB.out 2
    go_wp2
    (try simp only [Exit.inBlock, Exit.then])
    refine bodyPost_ret (results_ct rfl _ rfl (run_loadVar_row _ (sb + 2) _ 86 _ _ _ (cells3 (.bool z.neg) (.int .u64 (z.hi : Int)) (.int .u64 (z.lo : Int)) HB.out) Tryz.underlying86 rfl (by kernel_rfl))) rfl ?_
    exact ⟨by rw [← HZ.out]; rfl, ((HK.out.setCell_new (p := ⟨sb + 2, 0, none⟩) (by have := HSB.out; show _ ≤ sb + 2; omega) _).setCell_new (p := ⟨sb + 2, 1, none⟩) (by have := HSB.out; show _ ≤ sb + 2; omega) _).setCell_new (p := ⟨sb + 2, 2, none⟩) (by have := HSB.out; show _ ≤ sb + 2; omega) _⟩
  have hba : b = a := by omega
  subst hba
  have hc : cmpN (WI.mag ⟨false, 0, b⟩) (WI.mag ⟨true, 0, b⟩) = 0 := by
    simp [cmpN, WI.mag]
  rw [hc]
  clear hc
  have q1 : ∀ wz, (callFunc 185 #[.int .u64 (b : Int), .int .u64 (b : Int), .int .u64 0]).run Tryz.prog wz = .ok (.value (.tuple #[.int .u64 ((0 : Nat) : Int), .int .u64 ((0 : Nat) : Int)])) wz := by
    intro wz
    have := ext_sub64 b b 0 (by omega) wz
    rwa [show (b + 18446744073709551616 - b - 0) % 18446744073709551616 = 0 by omega, if_neg (by omega)] at this
  have q2 : ∀ wz, (callFunc 185 #[.int .u64 0, .int .u64 0, .int .u64 0]).run Tryz.prog wz = .ok (.value (.tuple #[.int .u64 ((0 : Nat) : Int), .int .u64 ((0 : Nat) : Int)])) wz := fun wz => ext_sub64 0 0 0 (by omega) wz
  go_wp2_with (first | rw [q2] | rw [q1])
  refine (w_fit false 0 0 (by omega) (by omega) _).mono ?_
  rintro r w3 ⟨rfl, hk3⟩
  have HK := hid (HK2.out.trans hk3)
  have HB := hid (hk3.get HB9.out (fun h => h))
  have HZ : Hid (normW false 0 0 = normW true 0 (b - b)) := hid (by rw [Nat.sub_self]; rfl)
  clear hk3
  generalize normW false 0 0 = z at *
  clear a0 a1 a2 b0 b1 b2 fa0 fa1 fa2 fb0 fb1 fb2 q1 q2
  have c0 := cell_of HB.out (i := 0) (by rfl)
  have c1 := cell_of HB.out (i := 1) (by rfl)
  have c2 := cell_of HB.out (i := 2) (by rfl)
  have f0 := free_of HB.out 0
  have f1 := free_of HB.out 1
  have f2 := free_of HB.out 2
  go_wp2
  (try simp only [Exit.inBlock, Exit.then])
  refine bodyPost_ret (results_ct rfl _ rfl (run_loadVar_row _ (sb + 2) _ 86 _ _ _ (cells3 (.bool z.neg) (.int .u64 (z.hi : Int)) (.int .u64 (z.lo : Int)) HB.out) Tryz.underlying86 rfl (by kernel_rfl))) rfl ?_
  exact ⟨by rw [← HZ.out]; rfl, ((HK.out.setCell_new (p := ⟨sb + 2, 0, none⟩) (by have := HSB.out; show _ ≤ sb + 2; omega) _).setCell_new (p := ⟨sb + 2, 1, none⟩) (by have := HSB.out; show _ ≤ sb + 2; omega) _).setCell_new (p := ⟨sb + 2, 2, none⟩) (by have := HSB.out; show _ ≤ sb + 2; omega) _⟩
set_option maxRecDepth 20000 in
set_option maxHeartbeats 8000000 in
theorem w_sub_pp (a b : Nat) (hb : 0 < b) (hab : a ≤ b) (hb6 : b < 18446744073709551616) (w : World) :
    Calls Tryz.prog 121 #[WV ⟨false, 0, a⟩, WV ⟨false, 0, b⟩] w fun r w' => r = .returned (.tuple #[WV (normW true 0 (b - a)), .int .i64 0]) ∧ Keep (fun _ => False) w w' := by
  have hk0 : Keep (fun _ => False) w (((w.alloc (.cells (WC ⟨false, 0, a⟩) 86)).alloc (.cells (WC ⟨false, 0, b⟩) 86)).alloc (.cells Z3 86)) := (((Keep.refl (fun _ => False) w).alloc _).alloc _).alloc _
  have hb1 : (((w.alloc (.cells (WC ⟨false, 0, a⟩) 86)).alloc (.cells (WC ⟨false, 0, b⟩) 86)).alloc (.cells Z3 86)).heap[w.heap.size]? = some (.cells (WC ⟨false, 0, a⟩) 86 (0, 0)) := ((((Keep.refl (fun _ => False) _).alloc _).alloc _).get (heap_alloc_new w _) (fun h => h))
  have hb2 : (((w.alloc (.cells (WC ⟨false, 0, a⟩) 86)).alloc (.cells (WC ⟨false, 0, b⟩) 86)).alloc (.cells Z3 86)).heap[w.heap.size + 1]? = some (.cells (WC ⟨false, 0, b⟩) 86 (0, 0)) := by
    have := (((Keep.refl (fun _ => False) ((w.alloc (.cells (WC ⟨false, 0, a⟩) 86)).alloc (.cells (WC ⟨false, 0, b⟩) 86))).alloc (.cells Z3 86)).get (heap_alloc_new (w.alloc (.cells (WC ⟨false, 0, a⟩) 86)) (.cells (WC ⟨false, 0, b⟩) 86)) (fun h => h))
    simpa using this
  have hb3 : (((w.alloc (.cells (WC ⟨false, 0, a⟩) 86)).alloc (.cells (WC ⟨false, 0, b⟩) 86)).alloc (.cells Z3 86)).heap[w.heap.size + 2]? = some (.cells Z3 86 (0, 0)) := by
    have := heap_alloc_new ((w.alloc (.cells (WC ⟨false, 0, a⟩) 86)).alloc (.cells (WC ⟨false, 0, b⟩) 86)) (.cells Z3 86)
    simpa using this
  have HK0 := hid hk0; have HB1 := hid hb1; have HB2 := hid hb2; have HB3 := hid hb3
  clear hk0 hb1 hb2 hb3
  go_enter Tryz.func121, Tryz.ntmps121
  go_upto_region 1 with fail
  generalize (((w.alloc (.cells (WC ⟨false, 0, a⟩) 86)).alloc (.cells (WC ⟨false, 0, b⟩) 86)).alloc (.cells Z3 86)) = w0 at *
  generalize hsb : w.heap.size = sb at *
  have HSB := hid hsb
  clear hsb
  have a0 : w0.cell? ⟨sb, 0, none⟩ = some (.bool false) := cell_of HB1.out (by rfl)
  have a1 : w0.cell? ⟨sb, 1, none⟩ = some (.int .u64 ((0 : Nat) : Int)) := cell_of HB1.out (by rfl)
  have a2 : w0.cell? ⟨sb, 2, none⟩ = some (.int .u64 (a : Int)) := cell_of HB1.out (by rfl)
  have b0 : w0.cell? ⟨sb + 1, 0, none⟩ = some (.bool false) := cell_of HB2.out (by rfl)
  have b1 : w0.cell? ⟨sb + 1, 1, none⟩ = some (.int .u64 ((0 : Nat) : Int)) := cell_of HB2.out (by rfl)
  have b2 : w0.cell? ⟨sb + 1, 2, none⟩ = some (.int .u64 (b : Int)) := cell_of HB2.out (by rfl)
  have fta : WI.fit ⟨false, 0, a⟩ := ⟨(by decide : (0 : Nat) < 18446744073709551616), (by omega : a < 18446744073709551616)⟩
  have ftb : WI.fit ⟨false, 0, b⟩ := ⟨(by decide : (0 : Nat) < 18446744073709551616), (by omega : b < 18446744073709551616)⟩
  have FTA := hid fta; have FTB := hid ftb
  clear fta ftb
  go_wp2_with fail
  refine (w_check ⟨false, 0, a⟩ ⟨false, 0, b⟩ FTA.out FTB.out (pos_form a) (pos_form b) _).mono ?_
  rintro r w1 ⟨rfl, hk1⟩
  have HK1 := hid (HK0.out.trans hk1).drew
  have HB4 := hid (hk1.drew.get HB1.out (fun h => h)); have HB5 := hid (hk1.drew.get HB2.out (fun h => h)); have HB6 := hid (hk1.drew.get HB3.out (fun h => h))
  clear hk1 a0 a1 a2 b0 b1 b2
  have a0 : w1.drew.cell? ⟨sb, 0, none⟩ = some (.bool false) := cell_of HB4.out (by rfl)
  have a1 : w1.drew.cell? ⟨sb, 1, none⟩ = some (.int .u64 ((0 : Nat) : Int)) := cell_of HB4.out (by rfl)
  have a2 : w1.drew.cell? ⟨sb, 2, none⟩ = some (.int .u64 (a : Int)) := cell_of HB4.out (by rfl)
  have b0 : w1.drew.cell? ⟨sb + 1, 0, none⟩ = some (.bool false) := cell_of HB5.out (by rfl)
  have b1 : w1.drew.cell? ⟨sb + 1, 1, none⟩ = some (.int .u64 ((0 : Nat) : Int)) := cell_of HB5.out (by rfl)
  have b2 : w1.drew.cell? ⟨sb + 1, 2, none⟩ = some (.int .u64 (b : Int)) := cell_of HB5.out (by rfl)
  go_wp2_with fail
  refine Plan.wp_region_pl [(false, 0, []), (false, 1, []), (true, 2, [0]), (true, 3, []), (false, 4, []), (false, 5, []), (true, 6, []), (false, 7, [])] (by kernel_rfl) (by kernel_rfl) ?_
  repeat (refine Plan.pl_st rfl ?_; go_big_quiet_step (fail); refine wpQuiet_nil ?_)
  refine Plan.pl_ac rfl ?_
  go_wp2_with fail
  refine (w_neg ⟨false, 0, b⟩ FTB.out (pos_form b) _).mono ?_
  rintro r w2 ⟨rfl, hk2⟩
  rw [show normW (!(false : Bool)) 0 b = ⟨true, 0, b⟩ from normW_neg b hb]
  have HK2 := hid (HK1.out.trans hk2)
  have HB7 := hid (hk2.get HB4.out (fun h => h)); have HB8 := hid (hk2.get HB5.out (fun h => h)); have HB9 := hid (hk2.get HB6.out (fun h => h))
  clear hk2 a0 a1 a2 b0 b1 b2
  have a0 : w2.cell? ⟨sb, 0, none⟩ = some (.bool false) := cell_of HB7.out (by rfl)
  have a1 : w2.cell? ⟨sb, 1, none⟩ = some (.int .u64 ((0 : Nat) : Int)) := cell_of HB7.out (by rfl)
  have a2 : w2.cell? ⟨sb, 2, none⟩ = some (.int .u64 (a : Int)) := cell_of HB7.out (by rfl)
  have b0 : w2.cell? ⟨sb + 1, 0, none⟩ = some (.bool false) := cell_of HB8.out (by rfl)
  have b1 : w2.cell? ⟨sb + 1, 1, none⟩ = some (.int .u64 ((0 : Nat) : Int)) := cell_of HB8.out (by rfl)
  have b2 : w2.cell? ⟨sb + 1, 2, none⟩ = some (.int .u64 (b : Int)) := cell_of HB8.out (by rfl)
  go_wp2
  refine Plan.plQ_mk ?_ ?_
  · repeat (refine Plan.chk_st rfl ?_ ?_; focus (go_big_quiet_step (fail); exact wpQuiet_nil rfl))
    exact Plan.chk_end
  refine Plan.pl_ac rfl ?_
  go_wp2_with fail
  refine (w_add_pn a b hb hab hb6 _).mono ?_
  rintro r w3 ⟨rfl, hk3⟩
  have HK := hid (HK2.out.trans hk3)
  have HB := hid (hk3.get HB9.out (fun h => h))
  clear hk3 a0 a1 a2 b0 b1 b2
  obtain ⟨z, hz⟩ : ∃ z, normW true 0 (b - a) = z := ⟨_, rfl⟩
  rw [hz]
  have HZ := hid hz
  clear hz
  have c0 := cell_of HB.out (i := 0) (by rfl)
  have c1 := cell_of HB.out (i := 1) (by rfl)
  have c2 := cell_of HB.out (i := 2) (by rfl)
  have f0 := free_of HB.out 0
  have f1 := free_of HB.out 1
  have f2 := free_of HB.out 2
  go_wp2
  refine Plan.plQ_mk ?_ ?_
  · exact Plan.chk_end
  repeat (refine Plan.pl_st rfl ?_; go_big_quiet_step (fail); refine wpQuiet_nil ?_)
  refine Plan.pl_ac rfl ?_
  go_wp2
  refine Plan.plQ_mk ?_ ?_
  · exact Plan.chk_end
  repeat (refine Plan.pl_st rfl ?_; go_big_quiet_step (fail); refine wpQuiet_nil ?_)
  refine Plan.pl_end ?_
  go_wp2
  (try simp only [Exit.inBlock, Exit.then])
  refine bodyPost_ret (results_ct rfl _ rfl (run_loadVar_row _ (sb + 2) _ 86 _ _ _ (cells3 (.bool z.neg) (.int .u64 (z.hi : Int)) (.int .u64 (z.lo : Int)) HB.out) Tryz.underlying86 rfl (by kernel_rfl))) rfl ?_
  exact ⟨by rw [HZ.out]; rfl, ((HK.out.setCell_new (p := ⟨sb + 2, 0, none⟩) (by have := HSB.out; show _ ≤ sb + 2; omega) _).setCell_new (p := ⟨sb + 2, 1, none⟩) (by have := HSB.out; show _ ≤ sb + 2; omega) _).setCell_new (p := ⟨sb + 2, 2, none⟩) (by have := HSB.out; show _ ≤ sb + 2; omega) _⟩

end Go.Proofs.YtlhdofkgcbmnnaaGreat

namespace Go.Proofs.Wide
def addW (x y : WI) : WI × Nat := if x.form = true ∧ y.form = true then (if x.neg = y.neg then fitW x.neg (x.mag + y.mag) else if x.mag < y.mag then fitW y.neg (y.mag - x.mag) else fitW x.neg (x.mag - y.mag)) else (zW, 1)
def subW (x y : WI) : WI × Nat := if x.form = true ∧ y.form = true then addW x (negW y) else (zW, 1)
theorem addW_fit (x y : WI) : (addW x y).1.fit := by
  unfold addW
  repeat' split
  all_goals first | exact fitW_fit _ _ | exact zW_fit
theorem subW_fit (x y : WI) : (subW x y).1.fit := by
  unfold subW
  split
  · exact addW_fit _ _
  · exact zW_fit
theorem badW_no {x y : WI} (h : badW x y false = false) : x.form = true ∧ y.form = true := by
  unfold badW at h
  simpa using h
theorem badW_yes {x y : WI} (h : badW x y false = true) : ¬ (x.form = true ∧ y.form = true) := by
  rintro ⟨h1, h2⟩
  unfold badW at h
  rw [h1, h2] at h
  simp at h
theorem hi_lt {x : WI} (h : x.form = true) : x.hi < 9223372036854775808 := by
  unfold WI.form at h
  rw [Bool.and_eq_true, decide_eq_true_eq] at h
  exact h.1
end Go.Proofs.Wide
namespace Go.Proofs.YtlhdofkgcbmnnaaGreat
open Go.RowKit Go.Proofs.Heap Go.Proofs.Wide

set_option maxRecDepth 20000 in
set_option maxHeartbeats 8000000 in
theorem w_addU (x y : WI) (hx : x.fit) (hy : y.fit) (w : World) : Calls Tryz.prog 148 #[WV x, WV y] w fun r w' => r = .returned (.tuple #[WV (addW x y).1, iV (addW x y).2]) ∧ Keep (fun _ => False) w w' := by
  obtain ⟨w1, hw1, hb1, hb2, hb3, hs1, hk1⟩ := box3 w (WC x) (WC y) Z3 86 86 86
  have HK1 := hid hk1; have HA1 := hid hb1; have HB1 := hid hb2; have HR1 := hid hb3
  have HFX := hid hx; have HFY := hid hy
  clear hb1 hb2 hb3 hs1 hk1 hx hy
  go_enter Tryz.func148, Tryz.ntmps148
  go_upto_region 1 with fail
  rw [← hw1]
  clear hw1
  obtain ⟨sa, hsa⟩ : ∃ sa, w.heap.size = sa := ⟨_, rfl⟩
  obtain ⟨sb, hsb⟩ : ∃ sb, w.heap.size + 1 = sb := ⟨_, rfl⟩
  obtain ⟨sr, hsr⟩ : ∃ sr, w.heap.size + 1 + 1 = sr := ⟨_, rfl⟩
  have HSR : Hid (w.heap.size ≤ sr ∧ w.heap.size ≤ sa ∧ w.heap.size ≤ sb ∧ sa ≠ sr ∧ sb ≠ sr ∧ sa ≠ sb) := hid (by omega)
  rw [hsr] at HR1 ⊢
  rw [hsb] at HB1 ⊢
  rw [hsa] at HA1 ⊢
  clear hsa hsb hsr
  have a0 : w1.cell? ⟨sa, 0, none⟩ = some (.bool x.neg) := cell_of HA1.out (by rfl)
  have a1 : w1.cell? ⟨sa, 1, none⟩ = some (.int .u64 (x.hi : Int)) := cell_of HA1.out (by rfl)
  have a2 : w1.cell? ⟨sa, 2, none⟩ = some (.int .u64 (x.lo : Int)) := cell_of HA1.out (by rfl)
  have b0 : w1.cell? ⟨sb, 0, none⟩ = some (.bool y.neg) := cell_of HB1.out (by rfl)
  have b1 : w1.cell? ⟨sb, 1, none⟩ = some (.int .u64 (y.hi : Int)) := cell_of HB1.out (by rfl)
  have b2 : w1.cell? ⟨sb, 2, none⟩ = some (.int .u64 (y.lo : Int)) := cell_of HB1.out (by rfl)
  obtain ⟨bd, hbd⟩ : ∃ bd, badW x y false = bd := ⟨_, rfl⟩
  have HBD := hid hbd
  have HCK := hid (w_checkU x y false HFX.out HFY.out w1)
  rw [hbd] at HCK
  clear hbd
  go_wp2_with fail
  refine HCK.out.mono ?_
  rintro r w2 ⟨rfl, hk⟩
  have HK2 := hid (HK1.out.trans hk); have HA2 := hid (hk.get HA1.out id); have HB2 := hid (hk.get HB1.out id); have HR2 := hid (hk.get HR1.out id)
  clear hk HCK
  clear a0 a1 a2 b0 b1 b2
  cases bd
  rotate_left
  · as_aux_lemma =>
    have G : Hid (addW x y = (zW, 1)) := hid (if_neg (badW_yes HBD.out))
    have f0 := free_of HR2.out 0
    have f1 := free_of HR2.out 1
    have f2 := free_of HR2.out 2
    have c0 := cell_of HR2.out (i := 0) (by rfl)
    have c1 := cell_of HR2.out (i := 1) (by rfl)
    have c2 := cell_of HR2.out (i := 2) (by rfl)
    go_wp2
    (try simp only [Exit.inBlock, Exit.then])
    refine bodyPost_ret (results_ct rfl _ rfl (run_loadVar_row _ sr _ 86 _ _ _ (cells3 (.bool false) (.int .u64 0) (.int .u64 0) HR2.out) Tryz.underlying86 rfl (by kernel_rfl))) rfl ?_
    exact ⟨by rw [G.out]; rfl, ((HK2.out.setCell_new (p := ⟨sr, 0, none⟩) (by show _ ≤ sr; have := HSR.out; omega) _).setCell_new (p := ⟨sr, 1, none⟩) (by show _ ≤ sr; have := HSR.out; omega) _).setCell_new (p := ⟨sr, 2, none⟩) (by show _ ≤ sr; have := HSR.out; omega) _⟩
  have HFO := hid (badW_no HBD.out)
  have HHX := hid (hi_lt HFO.out.1); have HHY := hid (hi_lt HFO.out.2)
  have a0 : w2.cell? ⟨sa, 0, none⟩ = some (.bool x.neg) := cell_of HA2.out (by rfl)
  have a1 : w2.cell? ⟨sa, 1, none⟩ = some (.int .u64 (x.hi : Int)) := cell_of HA2.out (by rfl)
  have a2 : w2.cell? ⟨sa, 2, none⟩ = some (.int .u64 (x.lo : Int)) := cell_of HA2.out (by rfl)
  have b0 : w2.cell? ⟨sb, 0, none⟩ = some (.bool y.neg) := cell_of HB2.out (by rfl)
  have b1 : w2.cell? ⟨sb, 1, none⟩ = some (.int .u64 (y.hi : Int)) := cell_of HB2.out (by rfl)
  have b2 : w2.cell? ⟨sb, 2, none⟩ = some (.int .u64 (y.lo : Int)) := cell_of HB2.out (by rfl)
  by_cases hn : x.neg = y.neg
  · as_aux_lemma =>
    have G : Hid (addW x y = fitW x.neg (x.mag + y.mag)) := hid (by unfold addW; rw [if_pos HFO.out, if_pos hn])
    have g1 : (x.neg == y.neg) = true := by rw [hn]; simp
    have hlx := HFX.out.2; have hly := HFY.out.2; have hhx := HHX.out; have hhy := HHY.out
    obtain ⟨lo, hlo⟩ : ∃ lo, (x.lo + y.lo + 0) % 18446744073709551616 = lo := ⟨_, rfl⟩
    obtain ⟨cr, hcr⟩ : ∃ cr, (x.lo + y.lo + 0) / 18446744073709551616 = cr := ⟨_, rfl⟩
    obtain ⟨hi, hhi⟩ : ∃ hi, (x.hi + y.hi + cr) % 18446744073709551616 = hi := ⟨_, rfl⟩
    obtain ⟨c2, hc2⟩ : ∃ c2, (x.hi + y.hi + cr) / 18446744073709551616 = c2 := ⟨_, rfl⟩
    have q1 : (callFunc 183 #[.int .u64 (x.lo : Int), .int .u64 (y.lo : Int), .int .u64 0]).run Tryz.prog w2 = .ok (.value (.tuple #[.int .u64 (lo : Int), .int .u64 (cr : Int)])) w2 := by
      have := ext_add64 x.lo y.lo 0 (by omega) w2
      rwa [hlo, hcr] at this
    have q2 : (callFunc 183 #[.int .u64 (x.hi : Int), .int .u64 (y.hi : Int), .int .u64 (cr : Int)]).run Tryz.prog w2 = .ok (.value (.tuple #[.int .u64 (hi : Int), .int .u64 (c2 : Int)])) w2 := by
      have := ext_add64 x.hi y.hi cr (by omega) w2
      rwa [hhi, hc2] at this
    have HM : Hid (hi * 18446744073709551616 + lo = x.mag + y.mag) := hid (by unfold WI.mag; omega)
    have HL : Hid (hi < 18446744073709551616 ∧ lo < 18446744073709551616) := hid (by omega)
    clear hlo hcr hhi hc2 hlx hly hhx hhy hn
    go_wp2_with fail
    refine (w_fitU x.neg hi lo (x.mag + y.mag) HL.out.1 HL.out.2 HM.out w2).mono ?_
    rintro r w3 ⟨rfl, hk⟩
    have HK3 := hid (HK2.out.trans hk); have HR3 := hid (hk.get HR2.out id)
    clear hk q1 q2 g1
    clear a0 a1 a2 b0 b1 b2
    obtain ⟨⟨z, e⟩, hze⟩ : ∃ p, fitW x.neg (x.mag + y.mag) = p := ⟨_, rfl⟩
    rw [hze]
    have HZE := hid hze
    clear hze
    have f0 := free_of HR3.out 0
    have f1 := free_of HR3.out 1
    have f2 := free_of HR3.out 2
    have c0 := cell_of HR3.out (i := 0) (by rfl)
    have c1 := cell_of HR3.out (i := 1) (by rfl)
    have c2 := cell_of HR3.out (i := 2) (by rfl)
    go_wp2
    (try simp only [Exit.inBlock, Exit.then])
    refine bodyPost_ret (results_ct rfl _ rfl (run_loadVar_row _ sr _ 86 _ _ _ (cells3 (.bool z.neg) (.int .u64 (z.hi : Int)) (.int .u64 (z.lo : Int)) HR3.out) Tryz.underlying86 rfl (by kernel_rfl))) rfl ?_
    exact ⟨by rw [G.out, HZE.out]; rfl, ((HK3.out.setCell_new (p := ⟨sr, 0, none⟩) (by show _ ≤ sr; have := HSR.out; omega) _).setCell_new (p := ⟨sr, 1, none⟩) (by show _ ≤ sr; have := HSR.out; omega) _).setCell_new (p := ⟨sr, 2, none⟩) (by show _ ≤ sr; have := HSR.out; omega) _⟩
  have g1 : (x.neg == y.neg) = false := by rw [beq_eq_false_iff_ne]; exact hn
  have HN := hid hn
  clear hn
  go_wp2_with fail
  refine (w_size x y HFX.out HFY.out w2).mono ?_
  rintro r w3 ⟨rfl, hk⟩
  have HK3 := hid (HK2.out.trans hk); have HA3 := hid (hk.get HA2.out id); have HB3 := hid (hk.get HB2.out id); have HR3 := hid (hk.get HR2.out id)
  clear hk g1
  clear a0 a1 a2 b0 b1 b2
  go_upto_if 54 with fail
  go_cut [11] from 51 to 80 (fun _ wx => ∃ a b : WI, ((x.mag < y.mag ∧ a = y ∧ b = x) ∨ (¬ x.mag < y.mag ∧ a = x ∧ b = y)) ∧ wx.heap[sa]? = some (.cells (WC a) 86 (0, 0)) ∧ wx.heap[sb]? = some (.cells (WC b) 86 (0, 0)) ∧ wx.heap[sr]? = some (.cells Z3 86 (0, 0)) ∧ Keep (fun _ => False) w wx)
  case first =>
    by_cases hlt : x.mag < y.mag
    · have hc : cmpN x.mag y.mag = -1 := by unfold cmpN; rw [if_neg (by omega), if_neg (by omega)]
      rw [hc]
      have HLT := hid hlt
      clear hc hlt
      as_aux_lemma =>
      have a0 : w3.cell? ⟨sa, 0, none⟩ = some (.bool x.neg) := cell_of HA3.out (by rfl)
      have a1 : w3.cell? ⟨sa, 1, none⟩ = some (.int .u64 (x.hi : Int)) := cell_of HA3.out (by rfl)
      have a2 : w3.cell? ⟨sa, 2, none⟩ = some (.int .u64 (x.lo : Int)) := cell_of HA3.out (by rfl)
      have b0 : w3.cell? ⟨sb, 0, none⟩ = some (.bool y.neg) := cell_of HB3.out (by rfl)
      have b1 : w3.cell? ⟨sb, 1, none⟩ = some (.int .u64 (y.hi : Int)) := cell_of HB3.out (by rfl)
      have b2 : w3.cell? ⟨sb, 2, none⟩ = some (.int .u64 (y.lo : Int)) := cell_of HB3.out (by rfl)
      have f0 := free_of HA3.out 0
      have f1 := free_of HA3.out 1
      have f2 := free_of HA3.out 2
      have e0 := free_of HB3.out 0
      have e1 := free_of HB3.out 1
      have e2 := free_of HB3.out 2
      have HAX := hid (cells3 (.bool y.neg) (.int .u64 (y.hi : Int)) (.int .u64 (y.lo : Int)) HA3.out)
      have HKX := hid ((((Keep.refl (fun g => g = sa) w3).setCell (p := ⟨sa, 0, none⟩) rfl (.bool y.neg)).setCell (p := ⟨sa, 1, none⟩) rfl (.int .u64 (y.hi : Int))).setCell (p := ⟨sa, 2, none⟩) rfl (.int .u64 (y.lo : Int)))
      have HBX := hid (HKX.out.get HB3.out (fun e => by have := HSR.out; omega)); have HRX := hid (HKX.out.get HR3.out (fun e => by have := HSR.out; omega))
      have hne1 : sa ≠ sb := HSR.out.2.2.2.2.2
      have hne2 : sb ≠ sa := fun e => hne1 e.symm
      go_wp2
      go_meet
      case rel =>
        generalize ((w3.setCell ⟨sa, 0, none⟩ (.bool y.neg)).setCell ⟨sa, 1, none⟩ (.int .u64 (y.hi : Int))).setCell ⟨sa, 2, none⟩ (.int .u64 (y.lo : Int)) = w4 at *
        have HBY := hid (cells3 (.bool x.neg) (.int .u64 (x.hi : Int)) (.int .u64 (x.lo : Int)) HBX.out)
        have hky := ((((Keep.refl (fun g => g = sb) w4).setCell (p := ⟨sb, 0, none⟩) rfl (.bool x.neg)).setCell (p := ⟨sb, 1, none⟩) rfl (.int .u64 (x.hi : Int))).setCell (p := ⟨sb, 2, none⟩) rfl (.int .u64 (x.lo : Int)))
        refine ⟨y, x, .inl ⟨HLT.out, rfl, rfl⟩, hky.get HAX.out (fun e => by have := HSR.out; omega), HBY.out, hky.get HRX.out (fun e => by have := HSR.out; omega), keep_new (keep_new HK3.out HKX.out (fun g e => by have := HSR.out; omega)) hky (fun g e => by have := HSR.out; omega)⟩
    · have hc : cmpN x.mag y.mag = 1 ∨ cmpN x.mag y.mag = 0 := by
        unfold cmpN
        by_cases h : y.mag < x.mag
        · exact .inl (if_pos h)
        · right; rw [if_neg h, if_pos (by omega)]
      have HLT := hid hlt
      clear hlt
      rcases hc with hc | hc
      · rw [hc]
        clear hc
        as_aux_lemma =>
        go_wp2
        go_meet
        case rel => exact ⟨x, y, .inr ⟨HLT.out, rfl, rfl⟩, HA3.out, HB3.out, HR3.out, HK3.out⟩
      · rw [hc]
        clear hc
        as_aux_lemma =>
        go_wp2
        go_meet
        case rel => exact ⟨x, y, .inr ⟨HLT.out, rfl, rfl⟩, HA3.out, HB3.out, HR3.out, HK3.out⟩
  case rest =>
  obtain ⟨a, b, hab, ha, hb, hr, hk⟩ := hcut
  have HA4 := hid ha; have HB4 := hid hb; have HR4 := hid hr; have HK4 := hid hk
  have G : Hid (addW x y = fitW a.neg (a.mag - b.mag) ∧ b.mag ≤ a.mag ∧ a.fit ∧ b.fit ∧ a.hi < 9223372036854775808 ∧ b.hi < 9223372036854775808) := hid (by
    unfold addW
    rw [if_pos HFO.out, if_neg HN.out]
    rcases hab with ⟨h, rfl, rfl⟩ | ⟨h, rfl, rfl⟩
    · rw [if_pos h]; exact ⟨rfl, by omega, HFY.out, HFX.out, HHY.out, HHX.out⟩
    · rw [if_neg h]; exact ⟨rfl, by omega, HFX.out, HFY.out, HHX.out, HHY.out⟩)
  clear ha hb hr hk hab
  generalize wc = w4 at *
  as_aux_lemma =>
  have a0 : w4.cell? ⟨sa, 0, none⟩ = some (.bool a.neg) := cell_of HA4.out (by rfl)
  have a1 : w4.cell? ⟨sa, 1, none⟩ = some (.int .u64 (a.hi : Int)) := cell_of HA4.out (by rfl)
  have a2 : w4.cell? ⟨sa, 2, none⟩ = some (.int .u64 (a.lo : Int)) := cell_of HA4.out (by rfl)
  have b0 : w4.cell? ⟨sb, 0, none⟩ = some (.bool b.neg) := cell_of HB4.out (by rfl)
  have b1 : w4.cell? ⟨sb, 1, none⟩ = some (.int .u64 (b.hi : Int)) := cell_of HB4.out (by rfl)
  have b2 : w4.cell? ⟨sb, 2, none⟩ = some (.int .u64 (b.lo : Int)) := cell_of HB4.out (by rfl)
  obtain ⟨lo, hlo⟩ : ∃ lo, (a.lo + 18446744073709551616 - b.lo - 0) % 18446744073709551616 = lo := ⟨_, rfl⟩
  obtain ⟨br, hbr⟩ : ∃ br : Nat, (if a.lo < b.lo + 0 then 1 else 0) = br := ⟨_, rfl⟩
  obtain ⟨hi, hhi⟩ : ∃ hi, (a.hi + 18446744073709551616 - b.hi - br) % 18446744073709551616 = hi := ⟨_, rfl⟩
  obtain ⟨c2, hc2⟩ : ∃ c2 : Nat, (if a.hi < b.hi + br then 1 else 0) = c2 := ⟨_, rfl⟩
  have hb1' : br ≤ 1 := by rw [← hbr]; split <;> omega
  have q1 : (callFunc 185 #[.int .u64 (a.lo : Int), .int .u64 (b.lo : Int), .int .u64 0]).run Tryz.prog w4 = .ok (.value (.tuple #[.int .u64 (lo : Int), .int .u64 (br : Int)])) w4 := by
    have := ext_sub64 a.lo b.lo 0 (by omega) w4
    rwa [hlo, hbr] at this
  have q2 : (callFunc 185 #[.int .u64 (a.hi : Int), .int .u64 (b.hi : Int), .int .u64 (br : Int)]).run Tryz.prog w4 = .ok (.value (.tuple #[.int .u64 (hi : Int), .int .u64 (c2 : Int)])) w4 := by
    have := ext_sub64 a.hi b.hi br hb1' w4
    rwa [hhi, hc2] at this
  have HM : Hid (hi * 18446744073709551616 + lo = a.mag - b.mag) := hid (by
    obtain ⟨_, h1, h2, h3, h4, h5⟩ := G.out
    have h6 := h2.2; have h7 := h3.2
    unfold WI.mag at h1 ⊢
    by_cases hl : a.lo < b.lo
    · rw [if_pos (by omega)] at hbr
      omega
    · rw [if_neg (by omega)] at hbr
      omega)
  have HL : Hid (hi < 18446744073709551616 ∧ lo < 18446744073709551616) := hid (by omega)
  clear hlo hbr hhi hc2 hb1'
  go_wp2_with fail
  refine (w_fitU a.neg hi lo (a.mag - b.mag) HL.out.1 HL.out.2 HM.out w4).mono ?_
  rintro r w5 ⟨rfl, hk⟩
  have HK5 := hid (HK4.out.trans hk); have HR5 := hid (hk.get HR4.out id)
  clear hk q1 q2
  clear a0 a1 a2 b0 b1 b2
  obtain ⟨⟨z, e⟩, hze⟩ : ∃ p, fitW a.neg (a.mag - b.mag) = p := ⟨_, rfl⟩
  rw [hze]
  have HZE := hid hze
  clear hze
  have f0 := free_of HR5.out 0
  have f1 := free_of HR5.out 1
  have f2 := free_of HR5.out 2
  have c0 := cell_of HR5.out (i := 0) (by rfl)
  have c1 := cell_of HR5.out (i := 1) (by rfl)
  have c2 := cell_of HR5.out (i := 2) (by rfl)
  go_wp2
  (try simp only [Exit.inBlock, Exit.then])
  refine bodyPost_ret (results_ct rfl _ rfl (run_loadVar_row _ sr _ 86 _ _ _ (cells3 (.bool z.neg) (.int .u64 (z.hi : Int)) (.int .u64 (z.lo : Int)) HR5.out) Tryz.underlying86 rfl (by kernel_rfl))) rfl ?_
  exact ⟨by rw [G.out.1, HZE.out]; rfl, ((HK5.out.setCell_new (p := ⟨sr, 0, none⟩) (by show _ ≤ sr; have := HSR.out; omega) _).setCell_new (p := ⟨sr, 1, none⟩) (by show _ ≤ sr; have := HSR.out; omega) _).setCell_new (p := ⟨sr, 2, none⟩) (by show _ ≤ sr; have := HSR.out; omega) _⟩
set_option maxRecDepth 20000 in
set_option maxHeartbeats 8000000 in
theorem w_subU (x y : WI) (hx : x.fit) (hy : y.fit) (w : World) : Calls Tryz.prog 121 #[WV x, WV y] w fun r w' => r = .returned (.tuple #[WV (subW x y).1, iV (subW x y).2]) ∧ Keep (fun _ => False) w w' := by
  obtain ⟨w1, hw1, hb1, hb2, hb3, hs1, hk1⟩ := box3 w (WC x) (WC y) Z3 86 86 86
  have HK1 := hid hk1; have HA1 := hid hb1; have HB1 := hid hb2; have HR1 := hid hb3
  have HFX := hid hx; have HFY := hid hy
  clear hb1 hb2 hb3 hs1 hk1 hx hy
  go_enter Tryz.func121, Tryz.ntmps121
  go_upto_region 1 with fail
  rw [← hw1]
  clear hw1
  obtain ⟨sa, hsa⟩ : ∃ sa, w.heap.size = sa := ⟨_, rfl⟩
  obtain ⟨sb, hsb⟩ : ∃ sb, w.heap.size + 1 = sb := ⟨_, rfl⟩
  obtain ⟨sr, hsr⟩ : ∃ sr, w.heap.size + 1 + 1 = sr := ⟨_, rfl⟩
  have HSR : Hid (w.heap.size ≤ sr ∧ w.heap.size ≤ sa ∧ w.heap.size ≤ sb ∧ sa ≠ sr ∧ sb ≠ sr ∧ sa ≠ sb) := hid (by omega)
  rw [hsr] at HR1 ⊢
  rw [hsb] at HB1 ⊢
  rw [hsa] at HA1 ⊢
  clear hsa hsb hsr
  have a0 : w1.cell? ⟨sa, 0, none⟩ = some (.bool x.neg) := cell_of HA1.out (by rfl)
  have a1 : w1.cell? ⟨sa, 1, none⟩ = some (.int .u64 (x.hi : Int)) := cell_of HA1.out (by rfl)
  have a2 : w1.cell? ⟨sa, 2, none⟩ = some (.int .u64 (x.lo : Int)) := cell_of HA1.out (by rfl)
  have b0 : w1.cell? ⟨sb, 0, none⟩ = some (.bool y.neg) := cell_of HB1.out (by rfl)
  have b1 : w1.cell? ⟨sb, 1, none⟩ = some (.int .u64 (y.hi : Int)) := cell_of HB1.out (by rfl)
  have b2 : w1.cell? ⟨sb, 2, none⟩ = some (.int .u64 (y.lo : Int)) := cell_of HB1.out (by rfl)
  obtain ⟨bd, hbd⟩ : ∃ bd, badW x y false = bd := ⟨_, rfl⟩
  have HBD := hid hbd
  have HCK := hid (w_checkU x y false HFX.out HFY.out w1)
  rw [hbd] at HCK
  clear hbd
  go_wp2_with fail
  refine HCK.out.mono ?_
  rintro r w2 ⟨rfl, hk⟩
  have HK2 := hid (HK1.out.trans hk); have HA2 := hid (hk.get HA1.out id); have HB2 := hid (hk.get HB1.out id); have HR2 := hid (hk.get HR1.out id)
  clear hk HCK
  clear a0 a1 a2 b0 b1 b2
  cases bd
  rotate_left
  · as_aux_lemma =>
    have G : Hid (subW x y = (zW, 1)) := hid (if_neg (badW_yes HBD.out))
    have f0 := free_of HR2.out 0
    have f1 := free_of HR2.out 1
    have f2 := free_of HR2.out 2
    have c0 := cell_of HR2.out (i := 0) (by rfl)
    have c1 := cell_of HR2.out (i := 1) (by rfl)
    have c2 := cell_of HR2.out (i := 2) (by rfl)
    go_wp2
    (try simp only [Exit.inBlock, Exit.then])
    refine bodyPost_ret (results_ct rfl _ rfl (run_loadVar_row _ sr _ 86 _ _ _ (cells3 (.bool false) (.int .u64 0) (.int .u64 0) HR2.out) Tryz.underlying86 rfl (by kernel_rfl))) rfl ?_
    exact ⟨by rw [G.out]; rfl, ((HK2.out.setCell_new (p := ⟨sr, 0, none⟩) (by show _ ≤ sr; have := HSR.out; omega) _).setCell_new (p := ⟨sr, 1, none⟩) (by show _ ≤ sr; have := HSR.out; omega) _).setCell_new (p := ⟨sr, 2, none⟩) (by show _ ≤ sr; have := HSR.out; omega) _⟩
  have HFO := hid (badW_no HBD.out)
  have G : Hid (subW x y = addW x (negW y)) := hid (if_pos HFO.out)
  have HNG := hid (fun w => w_negU y HFY.out w)
  have HNF := hid (negW_fit HFY.out)
  generalize negW y = ny at *
  have HAD := hid (fun w => w_addU x ny HFX.out HNF.out w)
  go_upto_region 4 with fail
  have HKd := hid HK2.out.drew
  have HAd : Hid (w2.drew.heap[sa]? = _) := HA2
  have HBd : Hid (w2.drew.heap[sb]? = _) := HB2
  have HRd : Hid (w2.drew.heap[sr]? = _) := HR2
  refine Plan.wp_region_pl [(false, 0, []), (false, 1, []), (true, 2, [0]), (true, 3, []), (false, 4, []), (false, 5, []), (true, 6, []), (false, 7, [])] (by as_aux_lemma => kernel_rfl) (by as_aux_lemma => kernel_rfl) ?_
  generalize w2.drew = wd at *
  have a0 : wd.cell? ⟨sa, 0, none⟩ = some (.bool x.neg) := cell_of HAd.out (by rfl)
  have a1 : wd.cell? ⟨sa, 1, none⟩ = some (.int .u64 (x.hi : Int)) := cell_of HAd.out (by rfl)
  have a2 : wd.cell? ⟨sa, 2, none⟩ = some (.int .u64 (x.lo : Int)) := cell_of HAd.out (by rfl)
  have b0 : wd.cell? ⟨sb, 0, none⟩ = some (.bool y.neg) := cell_of HBd.out (by rfl)
  have b1 : wd.cell? ⟨sb, 1, none⟩ = some (.int .u64 (y.hi : Int)) := cell_of HBd.out (by rfl)
  have b2 : wd.cell? ⟨sb, 2, none⟩ = some (.int .u64 (y.lo : Int)) := cell_of HBd.out (by rfl)
  iterate 2 (refine Plan.pl_st rfl ?_; go_big_quiet_step (fail); refine wpQuiet_nil ?_)
  refine Plan.pl_ac rfl ?_
  go_wp2_with fail
  refine (HNG.out wd).mono ?_
  rintro r w3 ⟨rfl, hk⟩
  have HK3 := hid (HKd.out.trans hk); have HA3 := hid (hk.get HAd.out id); have HB3 := hid (hk.get HBd.out id); have HR3 := hid (hk.get HRd.out id)
  clear hk a0 a1 a2 b0 b1 b2
  have a0 : w3.cell? ⟨sa, 0, none⟩ = some (.bool x.neg) := cell_of HA3.out (by rfl)
  have a1 : w3.cell? ⟨sa, 1, none⟩ = some (.int .u64 (x.hi : Int)) := cell_of HA3.out (by rfl)
  have a2 : w3.cell? ⟨sa, 2, none⟩ = some (.int .u64 (x.lo : Int)) := cell_of HA3.out (by rfl)
  have b0 : w3.cell? ⟨sb, 0, none⟩ = some (.bool y.neg) := cell_of HB3.out (by rfl)
  have b1 : w3.cell? ⟨sb, 1, none⟩ = some (.int .u64 (y.hi : Int)) := cell_of HB3.out (by rfl)
  have b2 : w3.cell? ⟨sb, 2, none⟩ = some (.int .u64 (y.lo : Int)) := cell_of HB3.out (by rfl)
  go_wp2
  refine Plan.plQ_mk ?_ ?_
  · iterate 1 (refine Plan.chk_st rfl ?_ ?_; focus (go_big_quiet_step (fail); exact wpQuiet_nil rfl))
    exact Plan.chk_end
  refine Plan.pl_ac rfl ?_
  go_wp2_with fail
  refine (HAD.out w3).mono ?_
  rintro r w4 ⟨rfl, hk⟩
  have HK4 := hid (HK3.out.trans hk); have HA4 := hid (hk.get HA3.out id); have HB4 := hid (hk.get HB3.out id); have HR4 := hid (hk.get HR3.out id)
  clear hk a0 a1 a2 b0 b1 b2
  obtain ⟨⟨z, e⟩, hze⟩ : ∃ p, addW x ny = p := ⟨_, rfl⟩
  rw [hze]
  have HZE := hid hze
  clear hze
  have a0 : w4.cell? ⟨sa, 0, none⟩ = some (.bool x.neg) := cell_of HA4.out (by rfl)
  have a1 : w4.cell? ⟨sa, 1, none⟩ = some (.int .u64 (x.hi : Int)) := cell_of HA4.out (by rfl)
  have a2 : w4.cell? ⟨sa, 2, none⟩ = some (.int .u64 (x.lo : Int)) := cell_of HA4.out (by rfl)
  have b0 : w4.cell? ⟨sb, 0, none⟩ = some (.bool y.neg) := cell_of HB4.out (by rfl)
  have b1 : w4.cell? ⟨sb, 1, none⟩ = some (.int .u64 (y.hi : Int)) := cell_of HB4.out (by rfl)
  have b2 : w4.cell? ⟨sb, 2, none⟩ = some (.int .u64 (y.lo : Int)) := cell_of HB4.out (by rfl)
  go_wp2
  refine Plan.plQ_mk Plan.chk_end ?_
  iterate 2 (refine Plan.pl_st rfl ?_; go_big_quiet_step (fail); refine wpQuiet_nil ?_)
  refine Plan.pl_ac rfl ?_
  have HR5 := hid (cells3 (.bool z.neg) (.int .u64 (z.hi : Int)) (.int .u64 (z.lo : Int)) HR4.out)
  have HK5 : Hid (Keep (fun _ => False) w (((w4.setCell ⟨sr, 0, none⟩ (.bool z.neg)).setCell ⟨sr, 1, none⟩ (.int .u64 (z.hi : Int))).setCell ⟨sr, 2, none⟩ (.int .u64 (z.lo : Int)))) := hid (((HK4.out.setCell_new (p := ⟨sr, 0, none⟩) (by show _ ≤ sr; have := HSR.out; omega) _).setCell_new (p := ⟨sr, 1, none⟩) (by show _ ≤ sr; have := HSR.out; omega) _).setCell_new (p := ⟨sr, 2, none⟩) (by show _ ≤ sr; have := HSR.out; omega) _)
  have f0 := free_of HR4.out 0
  have f1 := free_of HR4.out 1
  have f2 := free_of HR4.out 2
  have c0 := cell_of HR4.out (i := 0) (by rfl)
  have c1 := cell_of HR4.out (i := 1) (by rfl)
  have c2 := cell_of HR4.out (i := 2) (by rfl)
  have hne1 : sa ≠ sr := HSR.out.2.2.2.1
  have hne2 : sb ≠ sr := HSR.out.2.2.2.2.1
  go_wp2
  generalize ((w4.setCell ⟨sr, 0, none⟩ (.bool z.neg)).setCell ⟨sr, 1, none⟩ (.int .u64 (z.hi : Int))).setCell ⟨sr, 2, none⟩ (.int .u64 (z.lo : Int)) = w5 at *
  clear c0 c1 c2 f0 f1 f2 a0 a1 a2 b0 b1 b2
  refine Plan.plQ_mk Plan.chk_end ?_
  iterate 1 (refine Plan.pl_st rfl ?_; go_big_quiet_step (fail); refine wpQuiet_nil ?_)
  refine Plan.pl_end ?_
  go_wp2
  (try simp only [Exit.inBlock, Exit.then])
  refine bodyPost_ret (results_ct rfl _ rfl (run_loadVar_row _ sr _ 86 _ _ _ HR5.out Tryz.underlying86 rfl (by kernel_rfl))) rfl ?_
  exact ⟨by rw [G.out, HZE.out]; rfl, HK5.out⟩
end Go.Proofs.YtlhdofkgcbmnnaaGreat
