/- What is proved: rows of instructions, of texts, and systems are compared as a whole. -/
import Derived.Test.YtbnhdmalkmcalaaDoorMCrDec
import Derived.Laws.StructEq
import Derived.Test.YtbnhdmalkmcalaaDoorMCrLines
namespace Go.Proofs.YtbnhdmalkmcalaaDoor
open Go.RowKit Go.Proofs.Heap Go.Proofs.Sch

theorem quiet_neqC {Q : Act → Prop} {rest : List Oper} {ops : Array Oper} {P : Program} {a : Act} {o : Oper} {w : World} (hgd : o.guard = none) (t u : TypeId) (x y : Operand) (xs ys : Array Value) (b : Bool) (ho : o.op = .binOp .neq t x y u) (hx : a.eval x = .agg xs) (hy : a.eval y = .agg ys)
    (hm : P.eqGuardType P.depth t = false) (hl : (binOp .neq t (.agg xs) (.agg ys)).run P w = .ok (.bool b) w) (h : wpQuiet P ops (fun w' => w' = w) Q rest (a.put o.dst (.bool b))) : wpQuiet P ops (fun w' => w' = w) Q (o :: rest) a := by
  refine BigFrame.wpQuiet_want (by simp [Region.wanted, hgd]) fun K hK => ⟨.bool b, fun w' hw' => ?_, hK _ h⟩
  subst hw'
  have hg := fun (o1 o2 : Operand) => run_eqGuard_agg (P := P) (w := w') .neq t o1 o2 xs ys hm
  unfold Oper.quietAt execOp
  simp [ho, hx, hy, hl, hg]
  exact ⟨rfl, rfl⟩
theorem neq_vop (x y : VOp) (w : World) : (binOp .neq 50 (OV x) (OV y)).run Tryd.prog w = .ok (.bool (!decide (x = y))) w := by
  rw [run_neq_struct, eq_vop]; rfl
theorem neq_vop1 (x : VOp) (w : World) : (binOp .neq 50 (OV x) (OV x)).run Tryd.prog w = .ok (.bool false) w := by rw [neq_vop]; simp
theorem neq_vop2 {x y : VOp} (h : x ≠ y) (w : World) : (binOp .neq 50 (OV x) (OV y)).run Tryd.prog w = .ok (.bool true) w := by rw [neq_vop, decide_eq_false h]; rfl

set_option maxRecDepth 20000 in
set_option maxHeartbeats 8000000 in
theorem eq_ops (xs ys : List VOp) (p q : Option Addr) (c d : Nat) (w : World) (hl : xs.length ≤ 65536) (hx : VP w w.heap.size p xs) (hy : VP w w.heap.size q ys) :
    Calls Tryd.prog 70 #[.slice p xs.length c, .slice q ys.length d] w fun r w' => r = .returned (.bool (decide (xs = ys))) ∧ Keep (fun _ => False) w w' := by
  have HX := hid hx; have HY := hid hy
  clear hx hy
  have HQT : Hid (xs = ys → decide (xs = ys) = true) := hid (fun h => decide_eq_true h)
  have HQF : Hid (xs ≠ ys → decide (xs = ys) = false) := hid (fun h => decide_eq_false h)
  generalize decide (xs = ys) = R at *
  go_enter Tryd.func70, Tryd.ntmps70
  by_cases hn : xs.length = ys.length
  rotate_left
  · have G : Hid (R = false) := hid (HQF.out (fun h => hn (by rw [h])))
    have g1 : ((xs.length : Int) != (ys.length : Int)) = true := by rw [bne_iff_ne]; omega
    have g2 : (xs.length != ys.length) = true := by rw [bne_iff_ne]; exact hn
    clear hn
    go_wp2
    go_ret
    exact ⟨by rw [G.out]; rfl, Keep.refl _ _⟩
  have HN := hid hn
  rw [← hn]
  generalize hnl : xs.length = n at *
  have HNL := hid hnl
  clear hn hnl
  go_wp2_with fail
  go_loopw [5, 13] (fun _ i wr => ∃ k : Nat, k ≤ n ∧ i = iV k ∧ (∀ j, j < k → xs[j]? = ys[j]?) ∧ Keep (fun _ => False) w wr) (fun _ i _ => n + 1 - (RowKit.intOf i).toNat)
  case atStart => exact ⟨0, Nat.zero_le _, rfl, fun j hj => by omega, Keep.refl _ _⟩
  case round =>
    obtain ⟨k, hk, rfl, hal, hkr⟩ := hrel
    have HAL := hid hal; have HKR := hid hkr
    clear hal hkr
    by_cases hlt : k < n
    · obtain ⟨x, hxk⟩ : ∃ x, xs[k]? = some x := ⟨xs[k]'(by rw [HNL.out]; exact hlt), by simp [HNL.out, hlt]⟩
      obtain ⟨y, hyk⟩ : ∃ y, ys[k]? = some y := ⟨ys[k]'(by rw [← HN.out]; exact hlt), by simp [← HN.out, hlt]⟩
      obtain ⟨b1, o1, rfl, hb1, x0, x1, x2, x3, x4⟩ := VP.at (VP.low HX.out (Low.keep0 HKR.out.drew)) hxk
      obtain ⟨b2, o2, rfl, hb2, y0, y1, y2, y3, y4⟩ := VP.at (VP.low HY.out (Low.keep0 HKR.out.drew)) hyk
      have hin : (0 : Int) ≤ (k : Int) ∧ (k : Int) < (n : Int) := ⟨by omega, by omega⟩
      have HNX : Hid (x = y → ∀ j, j < k + 1 → xs[j]? = ys[j]?) := hid (fun h j hj => by
        by_cases e : j = k
        · subst e; rw [hxk, hyk, h]
        · exact HAL.out j (by omega))
      have HNE : Hid (x ≠ y → R = false) := hid (fun h => HQF.out (fun e => h (by rw [e, hyk] at hxk; exact (Option.some.inj hxk).symm)))
      clear hxk hyk
      go_upto_region 6 with fail
      by_cases hxy : x = y
      · have G := hid (HNX.out hxy)
        subst hxy
        have hcmp := neq_vop1 x wr.drew
        refine Plan.wp_region_reads (by as_aux_lemma => kernel_rfl) (by as_aux_lemma => kernel_rfl) ?_
        repeat (go_big_quiet_step (fail))
        refine wpQuiet_nil ?_
        clear x0 x1 x2 x3 x4 y0 y1 y2 y3 y4 hcmp
        go_wp2
        go_roundw
        case rel => exact ⟨k + 1, by omega, by go_num, G.out, HKR.out.drew⟩
        case measure => simp [RowKit.intOf]; omega
      · have G := hid (HNE.out hxy)
        have hcmp := neq_vop2 hxy wr.drew
        clear hxy
        refine Plan.wp_region_reads (by as_aux_lemma => kernel_rfl) (by as_aux_lemma => kernel_rfl) ?_
        iterate 8 (go_big_quiet_step (fail))
        refine quiet_neqC rfl _ _ _ _ _ _ _ rfl rfl rfl (by kernel_rfl) hcmp ?_
        refine wpQuiet_nil ?_
        clear x0 x1 x2 x3 x4 y0 y1 y2 y3 y4 hcmp
        go_wp2
        go_ret
        exact ⟨by rw [G.out]; rfl, HKR.out.drew⟩
    · obtain rfl : k = n := by omega
      have G : Hid (R = true) := hid (HQT.out (List.ext_getElem? fun j => by
        by_cases h : j < k
        · exact HAL.out j h
        · rw [List.getElem?_eq_none (by rw [HNL.out]; omega), List.getElem?_eq_none (by rw [← HN.out]; omega)]))
      go_wp2
      go_ret
      exact ⟨by rw [G.out]; rfl, HKR.out⟩

theorem eq_txts (xs ys : List ByteArray) (p q : Option Addr) (c d : Nat) (w : World) (hx : TP w w.heap.size p xs) (hy : TP w w.heap.size q ys) (hl : ys.length ≤ 65536) :
    Calls Tryd.prog 69 #[.slice p xs.length c, .slice q ys.length d] w fun r w' => r = .returned (.bool (decide (xs = ys))) ∧ Keep (fun _ => False) w w' := by
  by_cases hn : xs.length = ys.length
  rotate_left
  · refine (Tryd.slices_Equal_string_lens p q xs.length c ys.length d w hn).mono ?_
    rintro r w' ⟨rfl, rfl⟩
    exact ⟨by rw [decide_eq_false (fun h => hn (by rw [h]))], Keep.refl _ _⟩
  rcases Nat.eq_zero_or_pos xs.length with h0 | h0
  · have e1 := List.eq_nil_of_length_eq_zero h0
    have e2 := List.eq_nil_of_length_eq_zero (hn ▸ h0 : ys.length = 0)
    subst e1 e2
    refine (Tryd.slices_Equal_string_empty p q c 0 d w (by omega)).mono ?_
    rintro r w' ⟨rfl, rfl⟩
    exact ⟨rfl, Keep.refl _ _⟩
  · have key : ∀ (l : List ByteArray) (p : Option Addr), 0 < l.length → TP w w.heap.size p l → ∃ b o, p = some ⟨b, o, none⟩ ∧ ∀ j, j < l.length → w.cell? ⟨b, o + j, none⟩ = some (.string (l.getD j ByteArray.empty)) := fun l p hl h => by
      rcases h with h | ⟨b, o, rfl, _, hc⟩
      · rw [h] at hl; simp at hl
      · refine ⟨b, o, rfl, fun j hj => ?_⟩
        have h2 : w.cell? ⟨b, o + j * 1, none⟩ = some (.string l[j]) := hc j l[j] (List.getElem?_eq_getElem hj)
        rw [Nat.mul_one] at h2
        rw [h2, List.getD_eq_getElem?_getD, List.getElem?_eq_getElem hj]; rfl
    obtain ⟨b1, o1, rfl, h1⟩ := key xs p h0 hx
    obtain ⟨b2, o2, rfl, h2⟩ := key ys q (by omega) hy
    refine (Tryd.slices_Equal_string b1 o1 xs.length c b2 o2 ys.length d xs ys w (Nat.le_refl _) (Nat.le_refl _) (by omega) (by omega) h1 h2).mono ?_
    rintro r w' ⟨rfl, k, rfl⟩
    exact ⟨by rw [List.take_length, List.take_length], (Keep.refl _ w).drewN k⟩
/-- Whether systems are the same. -/
def eqY (a b : VSys) : Bool := a.name.toList == b.name.toList && (a.stage == b.stage && (decide (a.after = b.after) && (a.all == b.all && (a.none == b.none && decide (a.code = b.code)))))
theorem eqY_iff (a b : VSys) : eqY a b = true ↔ a = b := by
  unfold eqY
  simp only [Bool.and_eq_true, beq_iff_eq, decide_eq_true_eq]
  constructor
  · rintro ⟨h1, h2, h3, h4, h5, h6⟩
    have e1 : a.name = b.name := ba_inj (by rw [← tl_eq, ← tl_eq, h1])
    cases a; cases b
    simp only at e1 h2 h3 h4 h5 h6
    rw [e1, h2, h3, h4, h5, h6]
  · rintro rfl
    exact ⟨rfl, rfl, rfl, rfl, rfl, rfl⟩

set_option maxRecDepth 20000 in
set_option maxHeartbeats 8000000 in
theorem craft_equal (a b : VSys) (pa : Option Addr) (ca : Nat) (pc : Option Addr) (cc : Nat) (pa2 : Option Addr) (ca2 : Nat) (pc2 : Option Addr) (cc2 : Nat) (w : World) (hl1 : b.after.length ≤ 65536) (hl2 : a.code.length ≤ 65536) (ha : TP w w.heap.size pa a.after) (hc : VP w w.heap.size pc a.code) (ha2 : TP w w.heap.size pa2 b.after) (hc2 : VP w w.heap.size pc2 b.code) :
    Calls Tryd.prog 22 #[SysV a pa ca pc cc, SysV b pa2 ca2 pc2 cc2] w fun r w' => r = .returned (.bool (eqY a b)) ∧ Keep (fun _ => False) w w' := by
  have HEA := hid (fun (wy : World) (hk : Keep (fun _ => False) w wy) => eq_txts a.after b.after pa pa2 ca ca2 wy (TP.mono (TP.low ha (Low.keep0 hk)) hk.size) (TP.mono (TP.low ha2 (Low.keep0 hk)) hk.size) hl1)
  have HEC := hid (fun (wy : World) (hk : Keep (fun _ => False) w wy) => eq_ops a.code b.code pc pc2 cc cc2 wy hl2 (VP.mono (VP.low hc (Low.keep0 hk)) hk.size) (VP.mono (VP.low hc2 (Low.keep0 hk)) hk.size))
  have HR : Hid (eqY a b = (a.name.toList == b.name.toList && (a.stage == b.stage && (decide (a.after = b.after) && (a.all == b.all && (a.none == b.none && decide (a.code = b.code))))))) := hid rfl
  generalize eqY a b = R at *
  obtain ⟨w1, hw1, hb1, hb2, hs1, hk1⟩ := box2 w (SysC a pa ca pc cc) (SysC b pa2 ca2 pc2 cc2) 27 27
  have HK1 := hid hk1
  have HB1 := hid hb1; have HB2 := hid hb2
  clear hb1 hb2 hs1 hk1 hl1 hl2 ha hc ha2 hc2
  go_enter Tryd.func22, Tryd.ntmps22
  go_upto_region 1 with fail
  rw [← hw1]
  clear hw1
  generalize w.heap.size = sb at *
  have c0 := cell_of HB1.out (i := 0) (by rfl)
  have c1 := cell_of HB1.out (i := 1) (by rfl)
  have c2 := cell_of HB1.out (i := 2) (by rfl)
  have d0 := cell_of HB2.out (i := 0) (by rfl)
  have d1 := cell_of HB2.out (i := 1) (by rfl)
  have d2 := cell_of HB2.out (i := 2) (by rfl)
  cases e1 : (a.name.toList == b.name.toList)
  · have G : Hid (R = false) := hid (by rw [HR.out, e1]; rfl)
    go_wp2
    go_ret
    exact ⟨by rw [G.out]; rfl, HK1.out⟩
  cases e2 : (a.stage == b.stage)
  · have G : Hid (R = false) := hid (by rw [HR.out, e1, e2]; rfl)
    go_wp2
    go_ret
    exact ⟨by rw [G.out]; rfl, HK1.out⟩
  have HR2 : Hid (R = (decide (a.after = b.after) && (a.all == b.all && (a.none == b.none && decide (a.code = b.code))))) := hid (by rw [HR.out, e1, e2]; rfl)
  clear HR
  go_wp2_with fail
  refine (HEA.out _ HK1.out).mono ?_
  rintro r w2 ⟨rfl, hk2⟩
  have HK2 := hid (HK1.out.trans hk2)
  have HC1 := hid (hk2.get HB1.out id); have HC2 := hid (hk2.get HB2.out id)
  clear hk2 c0 c1 c2 d0 d1 d2
  have c3 := cell_of HC1.out (i := 3) (by rfl)
  have c4 := cell_of HC1.out (i := 4) (by rfl)
  have c5 := cell_of HC1.out (i := 5) (by rfl)
  have d3 := cell_of HC2.out (i := 3) (by rfl)
  have d4 := cell_of HC2.out (i := 4) (by rfl)
  have d5 := cell_of HC2.out (i := 5) (by rfl)
  cases e3 : decide (a.after = b.after)
  · have G : Hid (R = false) := hid (by rw [HR2.out, e3]; rfl)
    clear e3
    go_wp2
    go_ret
    exact ⟨by rw [G.out]; rfl, HK2.out⟩
  cases e4 : (a.all == b.all)
  · have G : Hid (R = false) := hid (by rw [HR2.out, e3, e4]; rfl)
    have e4' : ((a.all : Int) == (b.all : Int)) = false := by rw [beq_eq_false_iff_ne] at e4 ⊢; omega
    clear e3
    go_wp2
    go_ret
    exact ⟨by rw [G.out]; rfl, HK2.out⟩
  have e4' : ((a.all : Int) == (b.all : Int)) = true := by rw [beq_iff_eq] at e4 ⊢; omega
  cases e5 : (a.none == b.none)
  · have G : Hid (R = false) := hid (by rw [HR2.out, e3, e4, e5]; rfl)
    have e5' : ((a.none : Int) == (b.none : Int)) = false := by rw [beq_eq_false_iff_ne] at e5 ⊢; omega
    clear e3
    go_wp2
    go_ret
    exact ⟨by rw [G.out]; rfl, HK2.out⟩
  have e5' : ((a.none : Int) == (b.none : Int)) = true := by rw [beq_iff_eq] at e5 ⊢; omega
  have HR3 : Hid (R = decide (a.code = b.code)) := hid (by rw [HR2.out, e3, e4, e5]; rfl)
  clear e3 HR2
  go_wp2_with fail
  refine (HEC.out _ HK2.out).mono ?_
  rintro r w3 ⟨rfl, hk3⟩
  have HK3 := hid (HK2.out.trans hk3)
  clear hk3 c3 c4 c5 d3 d4 d5
  generalize decide (a.code = b.code) = D at *
  go_wp2
  go_ret
  exact ⟨by rw [HR3.out]; rfl, HK3.out⟩
end Go.Proofs.YtbnhdmalkmcalaaDoor

namespace Go.Proofs.YtbnhdmalkmcalaaDoor
open Go.RowKit Go.Proofs.Heap Go.Proofs.Sch

def ageB : ByteArray := ⟨#[97, 103, 101]⟩
def oneY : VSys := ⟨ageB, 1, [], 2, 0, [⟨2, 1, 0, 0, 0⟩, ⟨1, 0, 0, 0, -1⟩, ⟨4, 0, 0, 0, 0⟩, ⟨3, 1, 0, 0, 0⟩]⟩
def oneU : VSys := ⟨ageB, 1, [], 2, 0, [⟨2, 1, 0, 0, 1⟩, ⟨1, 0, 0, 0, -1⟩, ⟨4, 0, 0, 0, 0⟩, ⟨3, 1, 0, 0, 0⟩]⟩
theorem one_ok : sysC oneY = 0 := by decide +kernel
theorem one_bad : sysC oneU = 4 := by decide +kernel
theorem one_mem : MemY oneY := ⟨sys_oky one_ok, by decide, by decide, by decide⟩
theorem one_enc : encS oneY = bsB (encL oneY) := if_pos one_ok
theorem one_size : (encS oneY).size = 64 := by rw [one_enc, bs_size]; decide +kernel
theorem one_head : ((encS oneY).extract 0 5).toList = (⟨#[89, 3, 97, 103, 101]⟩ : ByteArray).toList := by
  rw [one_enc, bs_ext]
  decide +kernel
theorem it0 : itB 0 = ⟨#[48]⟩ := by unfold itB Lib.itoa; rw [if_neg (by decide)]; rw [show (0 : Int).toNat = 0 from rfl, Lib.decDigits_one (by decide)]; rfl
theorem it1 : itB 1 = ⟨#[49]⟩ := by unfold itB Lib.itoa; rw [if_neg (by decide)]; rw [show (1 : Int).toNat = 1 from rfl, Lib.decDigits_one (by decide)]; rfl
theorem it2 : itB 2 = ⟨#[50]⟩ := by unfold itB Lib.itoa; rw [if_neg (by decide)]; rw [show (2 : Int).toNat = 2 from rfl, Lib.decDigits_one (by decide)]; rfl
theorem it3 : itB 3 = ⟨#[51]⟩ := by unfold itB Lib.itoa; rw [if_neg (by decide)]; rw [show (3 : Int).toNat = 3 from rfl, Lib.decDigits_one (by decide)]; rfl
theorem it_m1 : itB (-1) = ⟨#[45, 49]⟩ := by unfold itB Lib.itoa; rw [if_pos (by decide)]; rw [show (-1 : Int).natAbs = 1 from rfl, Lib.decDigits_one (by decide)]; rfl
/-- The sample's lines. -/
def oneL : List ByteArray := [⟨#[115, 121, 115, 116, 101, 109, 32, 97, 103, 101, 32, 49]⟩, ⟨#[113, 117, 101, 114, 121, 32, 49, 32, 110, 111, 116, 32, 45]⟩, ⟨#[48, 32, 108, 111, 97, 100, 32, 49, 32, 48, 32, 48]⟩, ⟨#[49, 32, 112, 117, 115, 104, 32, 45, 49]⟩, ⟨#[50, 32, 97, 100, 100]⟩, ⟨#[51, 32, 115, 116, 111, 114, 101, 32, 49, 32, 48, 32, 48]⟩]
theorem one_lines : linesY oneY = oneL := by
  have hs : idsT 2 25 = [1] := by decide +kernel
  have hz : idsT 0 25 = [] := by decide +kernel
  have t2 : sigT 2 = ⟨#[49]⟩ := by
    unfold sigT
    rw [hs, if_neg (by simp)]
    show joinB [itB 1] 43 = _
    rw [it1]; rfl
  have t0 : sigT 0 = ⟨#[45]⟩ := by unfold sigT; rw [hz, if_pos rfl]
  have q : queryL oneY = ⟨#[113, 117, 101, 114, 121, 32, 49, 32, 110, 111, 116, 32, 45]⟩ := by
    unfold queryL
    show _ ++ (sigT 2 ++ _ ++ sigT 0) = _
    rw [t2, t0]; decide +kernel
  have h : joinB (headT oneY) 32 = ⟨#[115, 121, 115, 116, 101, 109, 32, 97, 103, 101, 32, 49]⟩ := by
    show joinB [_, ageB, itB 1] 32 = _
    rw [it1]; decide +kernel
  have o0 : opLine 0 ⟨2, 1, 0, 0, 0⟩ = ⟨#[48, 32, 108, 111, 97, 100, 32, 49, 32, 48, 32, 48]⟩ := by
    show joinB [itB 0, wordI 2, itB 1, itB 0, itB 0] 32 = _
    rw [it0, it1]; decide +kernel
  have o1 : opLine 1 ⟨1, 0, 0, 0, -1⟩ = ⟨#[49, 32, 112, 117, 115, 104, 32, 45, 49]⟩ := by
    show joinB [itB 1, wordI 1, itB (-1)] 32 = _
    rw [it_m1, it1]; decide +kernel
  have o2 : opLine 2 ⟨4, 0, 0, 0, 0⟩ = ⟨#[50, 32, 97, 100, 100]⟩ := by
    show joinB [itB 2, wordI 4] 32 = _
    rw [it2]; decide +kernel
  have o3 : opLine 3 ⟨3, 1, 0, 0, 0⟩ = ⟨#[51, 32, 115, 116, 111, 114, 101, 32, 49, 32, 48, 32, 48]⟩ := by
    show joinB [itB 3, wordI 3, itB 1, itB 0, itB 0] 32 = _
    rw [it3, it1, it0]; decide +kernel
  unfold linesY
  rw [if_pos one_ok, q, h]
  show _ :: _ :: [opLine 0 _, opLine 1 _, opLine 2 _, opLine 3 _] = _
  rw [o0, o1, o2, o3]; rfl
/-- The sample's instructions, as they lie in memory. -/
def oneC (k : Int) : Array Value := #[.int .i64 2, .int .i64 1, .int .i64 0, .int .i64 0, .int .i64 k, .int .i64 1, .int .i64 0, .int .i64 0, .int .i64 0, .int .i64 (-1), .int .i64 4, .int .i64 0, .int .i64 0, .int .i64 0, .int .i64 0, .int .i64 3, .int .i64 1, .int .i64 0, .int .i64 0, .int .i64 0]
theorem one_vp {w : World} {g : Nat} (k : Int) (h : w.heap[g]? = some (.cells (oneC k) 50 (0, 0))) : VP w w.heap.size (some ⟨g, 0, none⟩) [⟨2, 1, 0, 0, k⟩, ⟨1, 0, 0, 0, -1⟩, ⟨4, 0, 0, 0, 0⟩, ⟨3, 1, 0, 0, 0⟩] := by
  refine .inr ⟨g, 0, rfl, lt_of_heap h, fun i x hx => ?_⟩
  match i, hx with
  | 0, hx => injection hx with hx; subst hx; exact ⟨cell_of h rfl, cell_of h rfl, cell_of h rfl, cell_of h rfl, cell_of h rfl⟩
  | 1, hx => injection hx with hx; subst hx; exact ⟨cell_of h rfl, cell_of h rfl, cell_of h rfl, cell_of h rfl, cell_of h rfl⟩
  | 2, hx => injection hx with hx; subst hx; exact ⟨cell_of h rfl, cell_of h rfl, cell_of h rfl, cell_of h rfl, cell_of h rfl⟩
  | 3, hx => injection hx with hx; subst hx; exact ⟨cell_of h rfl, cell_of h rfl, cell_of h rfl, cell_of h rfl, cell_of h rfl⟩
  | j + 4, hx => simp at hx
set_option maxRecDepth 20000 in
set_option maxHeartbeats 8000000 in
theorem cr_one (w : World) : Calls Tryd.prog 40 #[] w fun r w' => ∃ g, r = .returned (SysV oneY none 0 (some ⟨g, 0, none⟩) 4) ∧ w.heap.size ≤ g ∧ w'.heap[g]? = some (.cells (oneC 0) 50 (0, 0)) ∧ Keep (fun _ => False) w w' := by
  go_enter Tryd.func40, Tryd.ntmps40
  go_wp2
  obtain ⟨w2, hw2, hb1, hb2, hs, hk⟩ := box2 w #[.string ⟨#[97, 103, 101]⟩, .int .i64 1, .slice none 0 0, .int .u32 2, .int .u32 0, .slice (some ⟨w.heap.size + 1, 0, none⟩) 4 4] (oneC 0) 27 50
  unfold oneC at hw2
  rw [← hw2]
  (try simp only [Exit.inBlock, Exit.then])
  refine bodyPost_ret (results_c rfl _ rfl (load_sys hb1)) rfl ?_
  exact ⟨_, rfl, Nat.le_succ _, hb2, hk⟩
theorem one_tp (w : World) (B : Nat) : TP w B none oneY.after := .inl rfl

set_option maxRecDepth 20000 in
set_option maxHeartbeats 16000000 in
theorem craft_awake (w : World) (htab : Lib.TabIs Tryd.prog w "internal/strconv.uint64pow10" .u64 Lib.pow10Tab) : Calls Tryd.prog 9 #[] w fun r w' => r = .returned (.bool true) ∧ Keep (fun _ => False) w w' := by
  have HIT := hid (fun n h0 h1 => it_all n h0 h1 w htab)
  clear htab
  go_enter Tryd.func9, Tryd.ntmps9
  go_wp2_with fail
  refine (cr_one w).mono ?_
  rintro r w1 ⟨g, rfl, hg, hb, hk⟩
  have HG := hid hg; have HB1 := hid hb; have HK1 := hid hk
  clear hg hb hk
  obtain ⟨w2, hw2, hb2, hs2, hk2⟩ := box1 w1 (SysC oneY none 0 (some ⟨g, 0, none⟩) 4) 27
  have HS2 := hid hb2
  have HB2 := hid (hk2.get HB1.out id)
  have HK2 := hid (HK1.out.trans hk2)
  clear hb2 hs2 hk2
  go_upto_region 2 with fail
  rw [← hw2]
  clear hw2
  generalize w1.heap.size = A1 at *
  have s0 := cell_of HS2.out (i := 0) (by rfl)
  have s1 := cell_of HS2.out (i := 1) (by rfl)
  have s2 := cell_of HS2.out (i := 2) (by rfl)
  have s3 := cell_of HS2.out (i := 3) (by rfl)
  have s4 := cell_of HS2.out (i := 4) (by rfl)
  have s5 := cell_of HS2.out (i := 5) (by rfl)
  go_wp2_with fail
  refine (craft_encode oneY none 0 (some ⟨g, 0, none⟩) 4 w2 (by decide) (by decide) (by decide) (one_tp _ _) (one_vp 0 HB2.out)).mono ?_
  rintro r w3 ⟨rfl, hk⟩
  have HS3 := hid (hk.get HS2.out id); have HB3 := hid (hk.get HB2.out id); have HK3 := hid (HK2.out.trans hk)
  clear hk
  clear s0 s1 s2 s3 s4 s5
  rw [one_ok]
  have HDC := hid (craft_decode (encS oneY) w3 (by rw [one_size]; omega))
  have HDM := hid (fun wy => craft_decode (encS oneY ++ ⟨#[120]⟩) wy (by rw [ByteArray.size_append, one_size]; decide))
  have HD1 : Hid (decY (encS oneY) = oneY ∧ decE (encS oneY) = 0) := hid (by
    rw [one_enc]
    refine ⟨dec_enc one_mem, ?_⟩
    unfold decE; rw [if_pos (good_enc one_mem)])
  have HD2 : Hid (decE (encS oneY ++ ⟨#[120]⟩) = 4) := hid (by
    have e : encS oneY ++ ⟨#[120]⟩ = bsB (encL oneY ++ [120]) := by rw [one_enc]; exact ba_inj (by rw [ByteArray.data_append, Array.toList_append]; rfl)
    rw [e]
    unfold decE; rw [good_more one_mem 120]; rfl)
  have hz1 : ¬ (9223372036854775807 < (encS oneY).size + 1) := by rw [one_size]; decide
  have HZ := hid one_size
  have HHD := hid one_head
  generalize encS oneY = b at *
  generalize hbx : b ++ ⟨#[120]⟩ = bx at *
  go_wp2_with fail
  refine HDC.out.mono ?_
  rintro r w4 ⟨pa4, ca4, pc4, cc4, rfl, hca4, hta4, hvc4, hk4⟩
  rw [HD1.out.1, HD1.out.2]
  rw [HD1.out.1] at hca4 hta4 hvc4
  have HTA4 := hid hta4; have HVC4 := hid hvc4
  have HS4 := hid (hk4.get HS3.out id); have HB4 := hid (hk4.get HB3.out id); have HK4 := hid (HK3.out.trans hk4)
  clear hca4 hta4 hvc4 hk4 HDC
  obtain ⟨w5, hw5, hb5, hs5, hk5⟩ := box1 w4 (SysC oneY pa4 ca4 pc4 cc4) 27
  have HQ5 := hid hb5; have HS5 := hid (hk5.get HS4.out id); have HB5 := hid (hk5.get HB4.out id); have HK5 := hid (HK4.out.trans hk5)
  have HTA5 := hid (TP.mono (TP.low HTA4.out (Low.keep0 hk5)) hk5.size); have HVC5 := hid (VP.mono (VP.low HVC4.out (Low.keep0 hk5)) hk5.size)
  clear HTA4 HVC4
  clear hb5 hs5 hk5
  go_upto_region 4 with fail
  rw [← hw5]
  clear hw5
  generalize w4.heap.size = A4 at *
  go_wp2_with fail
  refine (HDM.out w5).mono ?_
  rintro r w6 ⟨pa6, ca6, pc6, cc6, rfl, _, _, _, hk6⟩
  rw [HD2.out]
  have HS6 := hid (hk6.get HS5.out id); have HB6 := hid (hk6.get HB5.out id); have HQ6 := hid (hk6.get HQ5.out id); have HK6 := hid (HK5.out.trans hk6); have HK46 := hid hk6
  clear hk6 HDM hz1
  generalize decY bx = yb at *
  obtain ⟨w7, hw7, hb7, hs7, hk7⟩ := box1 w6 (SysC yb pa6 ca6 pc6 cc6) 27
  have HS7 := hid (hk7.get HS6.out id); have HB7 := hid (hk7.get HB6.out id); have HQ7 := hid (hk7.get HQ6.out id); have HK7 := hid (HK6.out.trans hk7); have HK47 := hid (HK46.out.trans hk7)
  clear hb7 hs7 hk7
  go_upto_region 5 with fail
  rw [← hw7]
  clear hw7 hbx
  generalize w6.heap.size = A6 at *
  have HLN := hid (craft_lines oneY none 0 (some ⟨g, 0, none⟩) 4 w7 (by decide) (by decide) (by decide) (one_tp _ _) (one_vp 0 HB7.out) (fun x hx => by
    have hb : IB x.k := by
      have := one_mem.k x hx
      unfold IB; omega
    exact ⟨hb, (HIT.out x.k hb.1 hb.2).keep HK7.out⟩))
  rw [one_lines] at HLN
  have s0 := cell_of HS7.out (i := 0) (by rfl)
  have s1 := cell_of HS7.out (i := 1) (by rfl)
  have s2 := cell_of HS7.out (i := 2) (by rfl)
  have s3 := cell_of HS7.out (i := 3) (by rfl)
  have s4 := cell_of HS7.out (i := 4) (by rfl)
  have s5 := cell_of HS7.out (i := 5) (by rfl)
  go_wp2_with fail
  refine HLN.out.mono ?_
  rintro r w8 ⟨la, lc, rfl, lo, hk8⟩
  rw [show oneL.length = 6 from rfl] at lo ⊢
  obtain ⟨lg, rfl⟩ := owns_some lo (by decide)
  have HLO := hid lo
  have HS8 := hid (hk8.get HS7.out id); have HB8 := hid (hk8.get HB7.out id); have HQ8 := hid (hk8.get HQ7.out id); have HK8 := hid (HK7.out.trans hk8); have HK48 := hid (HK47.out.trans hk8)
  clear lo hk8 HLN
  clear s0 s1 s2 s3 s4 s5
  go_wp2_with fail
  refine (cr_one w8).mono ?_
  rintro r w9 ⟨g9, rfl, hg9, hb9, hk9⟩
  have HG9 := hid hg9; have HU9 := hid hb9; have HK89 := hid hk9
  clear hg9 hb9 hk9
  obtain ⟨w10, hw10, hb10, hs10, hk10⟩ := box1 w9 (SysC oneY none 0 (some ⟨g9, 0, none⟩) 4) 27
  have HX10 : Hid (w10.heap[w9.heap.size]? = some (.cells (SysC oneU none 0 (some ⟨g9, 0, none⟩) 4) 27 (0, 0))) := hid hb10
  have HU10 := hid (hk10.get HU9.out id); have HK810 := hid (HK89.out.trans hk10)
  have HGX : Hid (g9 < w9.heap.size) := hid (lt_of_heap HU9.out)
  clear hb10 hs10 hk10
  go_upto_region 7 with fail
  rw [← hw10]
  clear hw10
  generalize w9.heap.size = A9 at *
  have x5 : w10.cell? ⟨A9, 5, none⟩ = some (.slice (some ⟨g9, 0, none⟩) 4 4) := cell_of HX10.out (i := 5) (by rfl)
  have u4 : w10.cell? ⟨g9, 4, none⟩ = some (.int .i64 0) := cell_of HU10.out (i := 4) (by rfl)
  have f4 := free_of HU10.out 4
  go_upto_region 8 with fail
  clear x5 u4 f4
  have HU11 : Hid ((w10.setCell ⟨g9, 4, none⟩ (.int .i64 1)).heap[g9]? = some (.cells (oneC 1) 50 (0, 0))) := hid (hsc_same HU10.out 4 (.int .i64 1))
  have HX11 := hid ((hsc_ne (.int .i64 1) (show A9 ≠ g9 by have := HGX.out; omega)).trans HX10.out : (w10.setCell ⟨g9, 4, none⟩ (.int .i64 1)).heap[A9]? = _)
  have HK811 : Hid (Keep (fun j => j = g9) w8 (w10.setCell ⟨g9, 4, none⟩ (.int .i64 1))) := hid ((HK810.out.mono (T := fun j => j = g9) (fun _ _ h => h.elim)).setCell (p := ⟨g9, 4, none⟩) rfl _)
  generalize w10.setCell ⟨g9, 4, none⟩ (.int .i64 1) = w11 at *
  have HF : Hid (Keep (fun _ => False) w8 w11) := hid (keep_new (Keep.refl _ w8) HK811.out (fun j e => by have := HG9.out; omega))
  have HS11 := hid (HF.out.get HS8.out id); have HB11 := hid (HF.out.get HB8.out id); have HQ11 := hid (HF.out.get HQ8.out id); have HK11 := hid (HK8.out.trans HF.out)
  have HK4F := hid (HK48.out.trans HF.out)
  have HL11 := hid (owns_keep HLO.out (fun j hj => HF.out.block j (HLO.out.lt j hj).2 id))
  have HEQ := hid (craft_equal oneY oneY none 0 (some ⟨g, 0, none⟩) 4 pa4 ca4 pc4 cc4 w11 (by decide) (by decide) (one_tp _ _) (one_vp 0 HB11.out) (TP.mono (TP.low HTA5.out (Low.keep0 HK4F.out)) HK4F.out.size) (VP.mono (VP.low HVC5.out (Low.keep0 HK4F.out)) HK4F.out.size))
  rw [(eqY_iff oneY oneY).2 rfl] at HEQ
  clear HLO HS8 HB8 HQ8 HS7 HB7 HQ7 HS6 HB6 HQ6 HS5 HB5 HS4 HB4 HS3 HB3 HS2 HB2 HU10 HX10
  have s0 := cell_of HS11.out (i := 0) (by rfl)
  have s1 := cell_of HS11.out (i := 1) (by rfl)
  have s2 := cell_of HS11.out (i := 2) (by rfl)
  have s3 := cell_of HS11.out (i := 3) (by rfl)
  have s4 := cell_of HS11.out (i := 4) (by rfl)
  have s5 := cell_of HS11.out (i := 5) (by rfl)
  have q0 := cell_of HQ11.out (i := 0) (by rfl)
  have q1 := cell_of HQ11.out (i := 1) (by rfl)
  have q2 := cell_of HQ11.out (i := 2) (by rfl)
  have q3 := cell_of HQ11.out (i := 3) (by rfl)
  have q4 := cell_of HQ11.out (i := 4) (by rfl)
  have q5 := cell_of HQ11.out (i := 5) (by rfl)
  have hb64 := HZ.out
  have hhd : ((b.extract 0 5).toList == [89, 3, 97, 103, 101]) = true := by rw [HHD.out, tl_eq]; rfl
  simp only [List.append]
  go_wp2_with fail
  refine HEQ.out.mono ?_
  rintro r w12 ⟨rfl, hk12⟩
  have HX12 := hid (hk12.get HX11.out id); have HU12 := hid (hk12.get HU11.out id); have HK12 := hid (HK11.out.trans hk12)
  have HL12 := hid (owns_keep HL11.out (fun j hj => hk12.block j (HL11.out.lt j hj).2 id))
  clear hk12 hb64 hhd HEQ
  clear s0 s1 s2 s3 s4 s5 q0 q1 q2 q3 q4 q5
  have l0 : w12.cell? ⟨lg, 0, none⟩ = some (.string ⟨#[115, 121, 115, 116, 101, 109, 32, 97, 103, 101, 32, 49]⟩) := by rw [owns_cell HL12.out (by decide)]; rfl
  have l1 : w12.cell? ⟨lg, 1, none⟩ = some (.string ⟨#[113, 117, 101, 114, 121, 32, 49, 32, 110, 111, 116, 32, 45]⟩) := by rw [owns_cell HL12.out (by decide)]; rfl
  have l2 : w12.cell? ⟨lg, 2, none⟩ = some (.string ⟨#[48, 32, 108, 111, 97, 100, 32, 49, 32, 48, 32, 48]⟩) := by rw [owns_cell HL12.out (by decide)]; rfl
  have l3 : w12.cell? ⟨lg, 3, none⟩ = some (.string ⟨#[49, 32, 112, 117, 115, 104, 32, 45, 49]⟩) := by rw [owns_cell HL12.out (by decide)]; rfl
  have x0 := cell_of HX12.out (i := 0) (by rfl)
  have x1 := cell_of HX12.out (i := 1) (by rfl)
  have x2 := cell_of HX12.out (i := 2) (by rfl)
  have x3 := cell_of HX12.out (i := 3) (by rfl)
  have x4 := cell_of HX12.out (i := 4) (by rfl)
  have x5 := cell_of HX12.out (i := 5) (by rfl)
  go_wp2_with fail
  refine (craft_check oneU none 0 (some ⟨g9, 0, none⟩) 4 w12 (by decide) (by decide) (by decide) (.inl rfl) (one_vp 1 HU12.out)).mono ?_
  rw [one_bad]
  rintro r w13 ⟨rfl, hk⟩
  have HK13 := hid (HK12.out.trans hk)
  clear hk l0 l1 l2 l3
  clear x0 x1 x2 x3 x4 x5
  go_wp2_with fail
  refine (takes_op ⟨15, 0, 0, 0, 0⟩ _).mono ?_
  rintro r w14 ⟨rfl, hk⟩
  have HK14 := hid (HK13.out.trans hk)
  clear hk
  rw [show takesV (15 : Int) = 2 from by decide]
  go_wp2_with fail
  refine (puts_op ⟨13, 0, 0, 0, 0⟩ _).mono ?_
  rintro r w15 ⟨rfl, hk⟩
  have HK15 := hid (HK14.out.trans hk)
  clear hk
  rw [show putsV (13 : Int) = 2 from by decide]
  go_wp2
  go_ret
  exact ⟨rfl, HK15.out⟩
end Go.Proofs.YtbnhdmalkmcalaaDoor

namespace Go.Proofs.YtbnhdmalkmcalaaDoor
open Go.RowKit Go.Proofs.Heap Go.Proofs.Sch

/-- More than is asked. -/
def greatY (s : VSys) : Bool := decide (100 < s.name.size) || (decide (12 < s.after.length) || (decide (80 < s.code.length) || s.after.any (fun t => decide (100 < t.size))))
theorem greatY_no {s : VSys} (h : greatY s = false) : s.name.size ≤ 100 ∧ s.after.length ≤ 12 ∧ s.code.length ≤ 80 ∧ ∀ t ∈ s.after, t.size ≤ 100 := by
  unfold greatY at h
  simp only [Bool.or_eq_false_iff, decide_eq_false_iff_not, List.any_eq_false, decide_eq_true_eq] at h
  exact ⟨by omega, by omega, by omega, fun t ht => by have := h.2.2.2 t ht; omega⟩

set_option maxRecDepth 20000 in
set_option maxHeartbeats 8000000 in
theorem cr_great (s : VSys) (pa : Option Addr) (ca : Nat) (pc : Option Addr) (cc : Nat) (w : World) (ha : TP w w.heap.size pa s.after) :
    Calls Tryd.prog 10 #[SysV s pa ca pc cc] w fun r w' => r = .returned (.bool (greatY s)) ∧ Keep (fun _ => False) w w' := by
  have HTA := hid (fun (wy : World) (hk : Keep (fun _ => False) w wy) => TP.low ha (Low.keep0 hk))
  have HR : Hid (greatY s = (decide (100 < s.name.size) || (decide (12 < s.after.length) || (decide (80 < s.code.length) || s.after.any (fun t => decide (100 < t.size)))))) := hid rfl
  generalize greatY s = R at *
  obtain ⟨w1, hw1, hb1, hs1, hk1⟩ := box1 w (SysC s pa ca pc cc) 27
  have HK1 := hid hk1; have HB1 := hid hb1
  clear hb1 hs1 hk1 ha
  go_enter Tryd.func10, Tryd.ntmps10
  go_upto_region 1 with fail
  rw [← hw1]
  clear hw1
  generalize w.heap.size = sb at *
  have c0 := cell_of HB1.out (i := 0) (by rfl)
  have c2 := cell_of HB1.out (i := 2) (by rfl)
  have c5 := cell_of HB1.out (i := 5) (by rfl)
  cases e1 : decide (100 < s.name.size)
  rotate_left
  · have G : Hid (R = true) := hid (by rw [HR.out, e1]; rfl)
    have e1' : decide ((100 : Int) < (s.name.size : Int)) = true := decide_eq_true (by have := of_decide_eq_true e1; omega)
    go_wp2
    go_ret
    exact ⟨by rw [G.out]; rfl, HK1.out⟩
  have e1' : decide ((100 : Int) < (s.name.size : Int)) = false := decide_eq_false (by have := of_decide_eq_false e1; omega)
  cases e2 : decide (12 < s.after.length)
  rotate_left
  · have G : Hid (R = true) := hid (by rw [HR.out, e1, e2]; rfl)
    have e2' : decide ((12 : Int) < (s.after.length : Int)) = true := decide_eq_true (by have := of_decide_eq_true e2; omega)
    go_wp2
    go_ret
    exact ⟨by rw [G.out]; rfl, HK1.out⟩
  have e2' : decide ((12 : Int) < (s.after.length : Int)) = false := decide_eq_false (by have := of_decide_eq_false e2; omega)
  cases e3 : decide (80 < s.code.length)
  rotate_left
  · have G : Hid (R = true) := hid (by rw [HR.out, e1, e2, e3]; rfl)
    have e3' : decide ((80 : Int) < (s.code.length : Int)) = true := decide_eq_true (by have := of_decide_eq_true e3; omega)
    go_wp2
    go_ret
    exact ⟨by rw [G.out]; rfl, HK1.out⟩
  have e3' : decide ((80 : Int) < (s.code.length : Int)) = false := decide_eq_false (by have := of_decide_eq_false e3; omega)
  have HR2 : Hid (R = s.after.any (fun t => decide (100 < t.size))) := hid (by rw [HR.out, e1, e2, e3]; rfl)
  have hl : s.after.length ≤ 12 := by have := of_decide_eq_false e2; omega
  go_wp2_with fail
  clear e1 e2 e3 e1' e2' e3' c0 c2 c5 HR
  go_loopw [3] (fun i wr => ∃ k : Nat, k ≤ s.after.length ∧ i = iV k ∧ (∀ j t, j < k → s.after[j]? = some t → ¬ 100 < t.size) ∧ Keep (fun _ => False) w1 wr) (fun i _ => s.after.length + 1 - (RowKit.intOf i).toNat)
  case atStart => exact ⟨0, Nat.zero_le _, rfl, fun j t hj => by omega, Keep.refl _ _⟩
  case round =>
    obtain ⟨k, hk, rfl, hal, hkr⟩ := hrel
    have HAL := hid hal; have HKR := hid hkr
    have HKW := hid (HK1.out.trans hkr)
    have c2 := cell_of (hkr.get HB1.out id) (i := 2) (by rfl)
    simp only [List.getElem_toArray, List.getElem_cons_succ, List.getElem_cons_zero] at c2
    clear hal hkr
    by_cases hlt : k < s.after.length
    · obtain ⟨t, ht⟩ : ∃ t, s.after[k]? = some t := ⟨s.after[k], by simp [hlt]⟩
      obtain ⟨b1, o1, rfl, hb1, x0⟩ := TP.at (HTA.out wr HKW.out) ht
      have hin : (0 : Int) ≤ (k : Int) ∧ (k : Int) < (s.after.length : Int) := ⟨by omega, by omega⟩
      by_cases hg : 100 < t.size
      · have G : Hid (R = true) := hid (by
          rw [HR2.out, List.any_eq_true]
          exact ⟨t, List.mem_of_getElem? ht, decide_eq_true hg⟩)
        have g1 : decide ((100 : Int) < (t.size : Int)) = true := decide_eq_true (by omega)
        have g2 : decide (100 < t.size) = true := decide_eq_true hg
        clear ht hg
        go_wp2
        go_ret
        exact ⟨by rw [G.out]; rfl, HKW.out⟩
      · have HNX : Hid (∀ j t, j < k + 1 → s.after[j]? = some t → ¬ 100 < t.size) := hid (fun j u hj hu => by
          by_cases e : j = k
          · subst e; rw [ht] at hu; injection hu with hu; subst hu; exact hg
          · exact HAL.out j u (by omega) hu)
        have g1 : decide ((100 : Int) < (t.size : Int)) = false := decide_eq_false (by omega)
        have g2 : decide (100 < t.size) = false := decide_eq_false hg
        clear ht hg
        go_wp2
        go_roundw
        case rel => exact ⟨k + 1, by omega, by go_num, HNX.out, HKR.out⟩
        case measure => simp [RowKit.intOf]; omega
    · obtain rfl : k = s.after.length := by omega
      have G : Hid (R = false) := hid (by
        rw [HR2.out, List.any_eq_false]
        intro t ht
        obtain ⟨j, hj, rfl⟩ := List.getElem_of_mem ht
        have := HAL.out j _ hj (List.getElem?_eq_getElem hj)
        simpa using this)
      go_wp2
      go_ret
      exact ⟨by rw [G.out]; rfl, HKW.out⟩
set_option maxRecDepth 20000 in
set_option maxHeartbeats 8000000 in
theorem cr_texts (xs ys : List ByteArray) (p q : Option Addr) (c d : Nat) (w : World) (hl : xs.length ≤ 65536) (hx : TP w w.heap.size p xs) (hy : TP w w.heap.size q ys) :
    Calls Tryd.prog 16 #[.slice p xs.length c, .slice q ys.length d] w fun r w' => r = .returned (.bool (decide (xs = ys))) ∧ Keep (fun _ => False) w w' := by
  have HX := hid hx; have HY := hid hy
  clear hx hy
  have HQT : Hid (xs = ys → decide (xs = ys) = true) := hid (fun h => decide_eq_true h)
  have HQF : Hid (xs ≠ ys → decide (xs = ys) = false) := hid (fun h => decide_eq_false h)
  generalize decide (xs = ys) = R at *
  go_enter Tryd.func16, Tryd.ntmps16
  by_cases hn : xs.length = ys.length
  rotate_left
  · have G : Hid (R = false) := hid (HQF.out (fun h => hn (by rw [h])))
    have g1 : ((xs.length : Int) != (ys.length : Int)) = true := by rw [bne_iff_ne]; omega
    have g2 : (xs.length != ys.length) = true := by rw [bne_iff_ne]; exact hn
    clear hn
    go_wp2
    go_ret
    exact ⟨by rw [G.out]; rfl, Keep.refl _ _⟩
  have HN := hid hn
  rw [← hn]
  generalize hnl : xs.length = n at *
  have HNL := hid hnl
  clear hn hnl
  go_wp2_with fail
  go_loopw [5] (fun i wr => ∃ k : Nat, k ≤ n ∧ i = iV k ∧ (∀ j, j < k → xs[j]? = ys[j]?) ∧ Keep (fun _ => False) w wr) (fun i _ => n + 1 - (RowKit.intOf i).toNat)
  case atStart => exact ⟨0, Nat.zero_le _, rfl, fun j hj => by omega, Keep.refl _ _⟩
  case round =>
    obtain ⟨k, hk, rfl, hal, hkr⟩ := hrel
    have HAL := hid hal; have HKR := hid hkr
    clear hal hkr
    by_cases hlt : k < n
    · obtain ⟨x, hxk⟩ : ∃ x, xs[k]? = some x := ⟨xs[k]'(by rw [HNL.out]; exact hlt), by simp [HNL.out, hlt]⟩
      obtain ⟨y, hyk⟩ : ∃ y, ys[k]? = some y := ⟨ys[k]'(by rw [← HN.out]; exact hlt), by simp [← HN.out, hlt]⟩
      obtain ⟨b1, o1, rfl, hb1, x0⟩ := TP.at (TP.low HX.out (Low.keep0 HKR.out.drew)) hxk
      obtain ⟨b2, o2, rfl, hb2, y0⟩ := TP.at (TP.low HY.out (Low.keep0 HKR.out.drew)) hyk
      have hin : (0 : Int) ≤ (k : Int) ∧ (k : Int) < (n : Int) := ⟨by omega, by omega⟩
      have HNX : Hid (x = y → ∀ j, j < k + 1 → xs[j]? = ys[j]?) := hid (fun h j hj => by
        by_cases e : j = k
        · subst e; rw [hxk, hyk, h]
        · exact HAL.out j (by omega))
      have HNE : Hid (x ≠ y → R = false) := hid (fun h => HQF.out (fun e => h (by rw [e, hyk] at hxk; exact (Option.some.inj hxk).symm)))
      clear hxk hyk
      go_upto_region 6 with fail
      by_cases hxy : x = y
      · have G := hid (HNX.out hxy)
        subst hxy
        have hcmp : (!x.toList == x.toList) = false := by simp
        refine Plan.wp_region_reads (by as_aux_lemma => kernel_rfl) (by as_aux_lemma => kernel_rfl) ?_
        repeat (go_big_quiet_step (fail))
        refine wpQuiet_nil ?_
        clear x0 y0 hcmp
        go_wp2
        go_roundw
        case rel => exact ⟨k + 1, by omega, by go_num, G.out, HKR.out.drew⟩
        case measure => simp [RowKit.intOf]; omega
      · have G := hid (HNE.out hxy)
        have hcmp : (!x.toList == y.toList) = true := by
          rw [beq_eq_false_iff_ne.2 (fun h => hxy (ba_inj (by rw [← tl_eq, ← tl_eq, h])))]; rfl
        clear hxy
        refine Plan.wp_region_reads (by as_aux_lemma => kernel_rfl) (by as_aux_lemma => kernel_rfl) ?_
        repeat (go_big_quiet_step (fail))
        refine wpQuiet_nil ?_
        clear x0 y0 hcmp
        go_wp2
        go_ret
        exact ⟨by rw [G.out]; rfl, HKR.out.drew⟩
    · obtain rfl : k = n := by omega
      have G : Hid (R = true) := hid (HQT.out (List.ext_getElem? fun j => by
        by_cases h : j < k
        · exact HAL.out j h
        · rw [List.getElem?_eq_none (by rw [HNL.out]; omega), List.getElem?_eq_none (by rw [← HN.out]; omega)]))
      go_wp2
      go_ret
      exact ⟨by rw [G.out]; rfl, HKR.out⟩
end Go.Proofs.YtbnhdmalkmcalaaDoor
