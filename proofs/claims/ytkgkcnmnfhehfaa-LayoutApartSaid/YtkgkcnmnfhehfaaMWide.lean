/- What is proved: what Form, size, Cmp, OfWord of the great numbers answer. -/
import Derived.Test.YtkgkcnmnfhehfaaMHeap
import Derived.Laws.BitsLemmas
import Derived.Deep.Cut
import Derived.Deep.CutRange
import Derived.Deep.CutBlock
namespace Go.Proofs.Wide
/-- A great number: its sign and its size's two words. -/
structure WI where
  neg : Bool
  hi : Nat
  lo : Nat
def WI.mag (x : WI) : Nat := x.hi * 18446744073709551616 + x.lo
def WI.val (x : WI) : Int := if x.neg = true then -(x.mag : Int) else (x.mag : Int)
/-- Whether a number is in form. -/
def WI.form (x : WI) : Bool := decide (x.hi < 9223372036854775808) && (!x.neg || decide (x.mag ≠ 0))
def WI.fit (x : WI) : Prop := x.hi < 18446744073709551616 ∧ x.lo < 18446744073709551616
def cmpN (a b : Nat) : Int := if b < a then 1 else if a = b then 0 else -1
def cmpI (a b : Int) : Int := if b < a then 1 else if a = b then 0 else -1
/-- Which of two numbers is greater; nought where one isn't in form. -/
def cmpW (x y : WI) : Int := if x.form = true ∧ y.form = true then cmpI x.val y.val else 0
end Go.Proofs.Wide
namespace Go.Proofs.Ytkgkcnmnfhehfaa
open Go.RowKit Go.Proofs.Heap Go.Proofs.Wide

abbrev WV (x : WI) : Value := .agg #[.bool x.neg, .int .u64 (x.hi : Int), .int .u64 (x.lo : Int)]
abbrev WC (x : WI) : Array Value := #[.bool x.neg, .int .u64 (x.hi : Int), .int .u64 (x.lo : Int)]

theorem wraps64 (n : Int) (h₀ : 0 ≤ n) (h₁ : n < 2 ^ 64) : IntKind.u64.wrap n = n := by
  have : IntKind.u64.wrap n = n % 18446744073709551616 := by simp [IntKind.wrap, IntKind.bits, IntKind.signed]
  omega
theorem or_zero (a b : Nat) (ha : a < 18446744073709551616) (hb : b < 18446744073709551616) : ∃ z : Nat, bits .or .u64 (a : Int) (b : Int) = (z : Int) ∧ (z = 0 ↔ a = 0 ∧ b = 0) := by
  refine ⟨a ||| b, (bits_nat .u64 64 (by decide) wraps64 a b ha hb).2, ?_⟩
  exact Nat.or_eq_zero_iff

set_option maxRecDepth 20000 in
theorem w_form (x : WI) (hx : x.fit) (w : World) : Calls Try.prog 41 #[WV x] w fun r w' => r = .returned (.bool x.form) ∧ Keep (fun _ => False) w w' := by
  obtain ⟨ng, hi, lo⟩ := x
  obtain ⟨h1, h2⟩ := hx
  simp only at h1 h2
  obtain ⟨z, hz, hz0⟩ := or_zero hi lo h1 h2
  have HK := hid ((Keep.refl (fun _ => False) w).alloc (.cells #[.bool ng, .int .u64 (hi : Int), .int .u64 (lo : Int)] 57))
  have HF : Hid (WI.form ⟨ng, hi, lo⟩ = (decide (hi < 9223372036854775808) && (!ng || decide (z ≠ 0)))) := hid (by
    unfold WI.form WI.mag
    have e : decide (hi * 18446744073709551616 + lo ≠ 0) = decide (z ≠ 0) := by
      have : (hi * 18446744073709551616 + lo ≠ 0) ↔ z ≠ 0 := by rw [Ne, Ne, hz0]; omega
      simp only [this]
    simp only [e])
  clear hz0
  go_enter Try.func41, Try.ntmps41
  by_cases g : hi < 9223372036854775808
  · have g1 : decide ((hi : Int) < 9223372036854775808) = true := decide_eq_true (by omega)
    cases ng
    · go_wp2
      go_ret
      exact ⟨by rw [HF.out]; simp [g], HK.out⟩
    · by_cases hz1 : z = 0
      · have g2 : ((z : Int) == 0) = true := beq_iff_eq.2 (by omega)
        have g3 : ((z : Int) != 0) = false := by rw [bne, g2]; rfl
        go_wp2
        go_ret
        exact ⟨by rw [HF.out]; simp [g, hz1], HK.out⟩
      · have g2 : ((z : Int) == 0) = false := beq_eq_false_iff_ne.2 (by omega)
        have g3 : ((z : Int) != 0) = true := by rw [bne, g2]; rfl
        go_wp2
        go_ret
        exact ⟨by rw [HF.out]; simp [g, hz1], HK.out⟩
  · have g1 : decide ((hi : Int) < 9223372036854775808) = false := decide_eq_false (by omega)
    go_wp2
    go_ret
    exact ⟨by rw [HF.out]; simp [g], HK.out⟩

set_option maxRecDepth 20000 in
theorem w_size (x y : WI) (hx : x.fit) (hy : y.fit) (w : World) : Calls Try.prog 63 #[WV x, WV y] w fun r w' => r = .returned (.int .i64 (cmpN x.mag y.mag)) ∧ Keep (fun _ => False) w w' := by
  obtain ⟨xn, xh, xl⟩ := x
  obtain ⟨yn, yh, yl⟩ := y
  obtain ⟨h1, h2⟩ := hx
  obtain ⟨h3, h4⟩ := hy
  simp only at h1 h2 h3 h4
  have HK := hid (((Keep.refl (fun _ => False) w).alloc (.cells #[.bool xn, .int .u64 (xh : Int), .int .u64 (xl : Int)] 57)).alloc (.cells #[.bool yn, .int .u64 (yh : Int), .int .u64 (yl : Int)] 57))
  have HC : Hid (cmpN (WI.mag ⟨xn, xh, xl⟩) (WI.mag ⟨yn, yh, yl⟩) = if yh < xh ∨ (xh = yh ∧ yl < xl) then 1 else if xh = yh ∧ xl = yl then 0 else -1) := hid (by
    unfold cmpN WI.mag
    simp only
    by_cases a : yh < xh ∨ (xh = yh ∧ yl < xl)
    · rw [if_pos a, if_pos (by omega)]
    · rw [if_neg a, if_neg (by omega)]
      by_cases b : xh = yh ∧ xl = yl
      · rw [if_pos b, if_pos (by omega)]
      · rw [if_neg b, if_neg (by omega)])
  go_enter Try.func63, Try.ntmps63
  by_cases a1 : yh < xh
  · have g1 : decide ((yh : Int) < (xh : Int)) = true := decide_eq_true (by omega)
    have g2 : decide (yh < xh) = true := decide_eq_true a1
    have G := hid (HC.out.trans (if_pos (.inl a1)))
    clear HC
    go_wp2
    go_ret
    exact ⟨by rw [G.out]; rfl, HK.out⟩
  have g1 : decide ((yh : Int) < (xh : Int)) = false := decide_eq_false (by omega)
  have g2 : decide (yh < xh) = false := decide_eq_false a1
  by_cases a2 : xh = yh
  · have g3 : ((xh : Int) == (yh : Int)) = true := beq_iff_eq.2 (by omega)
    have g4 : (xh == yh) = true := beq_iff_eq.2 a2
    by_cases a3 : yl < xl
    · have g5 : decide ((yl : Int) < (xl : Int)) = true := decide_eq_true (by omega)
      have g6 : decide (yl < xl) = true := decide_eq_true a3
      have G := hid (HC.out.trans (if_pos (.inr ⟨a2, a3⟩)))
      clear HC a2
      go_wp2
      go_ret
      exact ⟨by rw [G.out]; rfl, HK.out⟩
    have g5 : decide ((yl : Int) < (xl : Int)) = false := decide_eq_false (by omega)
    have g6 : decide (yl < xl) = false := decide_eq_false a3
    by_cases a4 : xl = yl
    · have g7 : ((xl : Int) == (yl : Int)) = true := beq_iff_eq.2 (by omega)
      have g8 : (xl == yl) = true := beq_iff_eq.2 a4
      have G := hid (HC.out.trans ((if_neg (by omega)).trans (if_pos ⟨a2, a4⟩)))
      clear HC a2 a4
      go_wp2
      go_ret
      exact ⟨by rw [G.out]; rfl, HK.out⟩
    · have g7 : ((xl : Int) == (yl : Int)) = false := beq_eq_false_iff_ne.2 (by omega)
      have g8 : (xl == yl) = false := beq_eq_false_iff_ne.2 a4
      have G := hid (HC.out.trans ((if_neg (by omega)).trans (if_neg (by omega))))
      clear HC a2 a4
      go_wp2
      go_ret
      exact ⟨by rw [G.out]; rfl, HK.out⟩
  · have g3 : ((xh : Int) == (yh : Int)) = false := beq_eq_false_iff_ne.2 (by omega)
    have g4 : (xh == yh) = false := beq_eq_false_iff_ne.2 a2
    have G := hid (HC.out.trans ((if_neg (by omega)).trans (if_neg (by omega))))
    clear HC a2
    go_wp2
    go_ret
    exact ⟨by rw [G.out]; rfl, HK.out⟩

theorem form_zero {x : WI} (h : x.form = true) (hn : x.neg = true) : x.mag ≠ 0 := by
  unfold WI.form at h
  rw [hn] at h
  simp at h
  exact h.2

set_option maxRecDepth 20000 in
set_option maxHeartbeats 1000000 in
theorem w_cmp (x y : WI) (hx : x.fit) (hy : y.fit) (w : World) : Calls Try.prog 42 #[WV x, WV y] w fun r w' => r = .returned (.int .i64 (cmpW x y)) ∧ Keep (fun _ => False) w w' := by
  have hk0 : Keep (fun _ => False) w ((w.alloc (.cells (WC x) 57)).alloc (.cells (WC y) 57)) := ((Keep.refl (fun _ => False) w).alloc _).alloc _
  have hb1 : ((w.alloc (.cells (WC x) 57)).alloc (.cells (WC y) 57)).heap[w.heap.size]? = some (.cells (WC x) 57 (0, 0)) := (((Keep.refl (fun _ => False) _).alloc _).get (heap_alloc_new w _) (fun h => h))
  have hb2 : ((w.alloc (.cells (WC x) 57)).alloc (.cells (WC y) 57)).heap[w.heap.size + 1]? = some (.cells (WC y) 57 (0, 0)) := by
    have := heap_alloc_new (w.alloc (.cells (WC x) 57)) (.cells (WC y) 57)
    simpa using this
  have HK0 := hid hk0; have HB1 := hid hb1; have HB2 := hid hb2
  clear hk0 hb1 hb2
  go_enter Try.func42, Try.ntmps42
  go_upto_region 1 with fail
  generalize (w.alloc (.cells (WC x) 57)).alloc (.cells (WC y) 57) = w0 at *
  generalize w.heap.size = sb at *
  have facts : ∀ wy, Keep (fun _ => False) w0 wy → (wy.cell? ⟨sb, 0, none⟩ = some (.bool x.neg) ∧ wy.cell? ⟨sb, 1, none⟩ = some (.int .u64 (x.hi : Int)) ∧ wy.cell? ⟨sb, 2, none⟩ = some (.int .u64 (x.lo : Int))) ∧ (wy.cell? ⟨sb + 1, 0, none⟩ = some (.bool y.neg) ∧ wy.cell? ⟨sb + 1, 1, none⟩ = some (.int .u64 (y.hi : Int)) ∧ wy.cell? ⟨sb + 1, 2, none⟩ = some (.int .u64 (y.lo : Int))) := fun wy hk =>
    ⟨⟨cell_of (hk.get HB1.out (fun h => h)) (by rfl), cell_of (hk.get HB1.out (fun h => h)) (by rfl), cell_of (hk.get HB1.out (fun h => h)) (by rfl)⟩, ⟨cell_of (hk.get HB2.out (fun h => h)) (by rfl), cell_of (hk.get HB2.out (fun h => h)) (by rfl), cell_of (hk.get HB2.out (fun h => h)) (by rfl)⟩⟩
  have FA := hid facts
  obtain ⟨⟨a0, a1, a2⟩, b0, b1, b2⟩ := facts w0 (Keep.refl _ _)
  clear facts
  have HX := hid hx; have HY := hid hy
  clear hx hy
  go_wp2_with fail
  refine (w_form x HX.out _).mono ?_
  rintro r w1 ⟨rfl, hk1⟩
  have HK1 := hid hk1
  clear hk1 a0 a1 a2 b0 b1 b2
  obtain ⟨⟨a0, a1, a2⟩, b0, b1, b2⟩ := FA.out w1 HK1.out
  cases fx : x.form
  · have G : Hid (cmpW x y = 0) := hid (if_neg (by rw [fx]; simp))
    clear fx
    go_wp2
    go_ret
    exact ⟨by rw [G.out]; rfl, HK0.out.trans HK1.out⟩
  go_wp2_with fail
  refine (w_form y HY.out _).mono ?_
  rintro r w2 ⟨rfl, hk2⟩
  have HK2 := hid (HK1.out.trans hk2)
  clear hk2 a0 a1 a2 b0 b1 b2
  obtain ⟨⟨a0, a1, a2⟩, b0, b1, b2⟩ := FA.out w2 HK2.out
  cases fy : y.form
  · have G : Hid (cmpW x y = 0) := hid (if_neg (by rw [fy]; simp))
    clear fx fy
    go_wp2
    go_ret
    exact ⟨by rw [G.out]; rfl, HK0.out.trans HK2.out⟩
  have FX := hid fx; have FY := hid fy
  clear fx fy
  obtain ⟨xn, xh, xl⟩ := x
  obtain ⟨yn, yh, yl⟩ := y
  simp only at a0 a1 a2 b0 b1 b2
  cases xn <;> cases yn
  · have G : Hid (cmpI (WI.val ⟨false, xh, xl⟩) (WI.val ⟨false, yh, yl⟩) = cmpN (WI.mag ⟨false, xh, xl⟩) (WI.mag ⟨false, yh, yl⟩)) := hid (by
      unfold cmpI cmpN WI.val
      simp only [Bool.false_eq_true, if_false]
      generalize WI.mag ⟨false, xh, xl⟩ = a
      generalize WI.mag ⟨false, yh, yl⟩ = b
      by_cases c1 : b < a
      · rw [if_pos (by omega), if_pos c1]
      · rw [if_neg (by omega), if_neg c1]
        by_cases c2 : a = b
        · rw [if_pos (by omega), if_pos c2]
        · rw [if_neg (by omega), if_neg c2])
    go_wp2_with fail
    refine (w_size ⟨false, xh, xl⟩ ⟨false, yh, yl⟩ HX.out HY.out _).mono ?_
    rintro r w3 ⟨rfl, hk3⟩
    have HK3 := hid (HK2.out.trans hk3)
    clear hk3
    go_wp2
    go_ret
    exact ⟨by rw [cmpW, if_pos ⟨FX.out, FY.out⟩, G.out]; rfl, HK0.out.trans HK3.out⟩
  · have G : Hid (cmpI (WI.val ⟨false, xh, xl⟩) (WI.val ⟨true, yh, yl⟩) = 1) := hid (by
      have h := form_zero FY.out rfl
      unfold cmpI WI.val
      simp only [Bool.false_eq_true, if_false, if_true]
      generalize WI.mag ⟨false, xh, xl⟩ = a
      generalize WI.mag ⟨true, yh, yl⟩ = b at h ⊢
      rw [if_pos (by omega)])
    go_wp2
    go_ret
    exact ⟨by rw [cmpW, if_pos ⟨FX.out, FY.out⟩, G.out]; rfl, HK0.out.trans HK2.out⟩
  · have G : Hid (cmpI (WI.val ⟨true, xh, xl⟩) (WI.val ⟨false, yh, yl⟩) = -1) := hid (by
      have h := form_zero FX.out rfl
      unfold cmpI WI.val
      simp only [Bool.false_eq_true, if_false, if_true]
      generalize WI.mag ⟨true, xh, xl⟩ = a at h ⊢
      generalize WI.mag ⟨false, yh, yl⟩ = b
      rw [if_neg (by omega), if_neg (by omega)])
    go_wp2
    go_ret
    exact ⟨by rw [cmpW, if_pos ⟨FX.out, FY.out⟩, G.out]; rfl, HK0.out.trans HK2.out⟩
  · have G : Hid (cmpI (WI.val ⟨true, xh, xl⟩) (WI.val ⟨true, yh, yl⟩) = cmpN (WI.mag ⟨true, yh, yl⟩) (WI.mag ⟨true, xh, xl⟩)) := hid (by
      unfold cmpI cmpN WI.val
      simp only [if_true]
      generalize WI.mag ⟨true, xh, xl⟩ = a
      generalize WI.mag ⟨true, yh, yl⟩ = b
      by_cases c1 : a < b
      · rw [if_pos (by omega), if_pos c1]
      · rw [if_neg (by omega), if_neg c1]
        by_cases c2 : a = b
        · rw [if_pos (by omega), if_pos (by omega)]
        · rw [if_neg (by omega), if_neg (by omega)])
    go_wp2_with fail
    refine (w_size ⟨true, yh, yl⟩ ⟨true, xh, xl⟩ HY.out HX.out _).mono ?_
    rintro r w3 ⟨rfl, hk3⟩
    have HK3 := hid (HK2.out.trans hk3)
    clear hk3
    go_wp2
    go_ret
    exact ⟨by rw [cmpW, if_pos ⟨FX.out, FY.out⟩, G.out]; rfl, HK0.out.trans HK3.out⟩
end Go.Proofs.Ytkgkcnmnfhehfaa

namespace Go.Proofs.Ytkgkcnmnfhehfaa
open Go.RowKit Go.Proofs.Heap Go.Proofs.Sch Go.Proofs.Wide

/-- A writer in block q, whose bytes are the row sv's. -/
structure WrS (w : World) (base q : Nat) (sv : Value) (l : List UInt8) : Prop where
  block : w.heap[q]? = some (.cells #[sv] 103 (0, 0))
  own : w.ownsRow base 5 1 sv l.length (l.map byteV)
  ne : sv.ownBlock ≠ some q
  base : base ≤ q
/-- The blocks that a writer may turn. -/
def WrF (q : Nat) (sv : Value) (g : Nat) : Prop := g = q ∨ sv.ownBlock = some g

theorem info_u8 : (Try.prog.info? 5).map (fun i => (i.zero, i.size, i.bytes)) = some (some (.int .u8 0), 1, 1) := by kernel_rfl

/-- The first bytes of a number, little end first. -/
def leL : Nat → Nat → List UInt8
  | 0, _ => []
  | k + 1, m => UInt8.ofNat m :: leL k (m / 256)
theorem leL_len : ∀ (k m : Nat), (leL k m).length = k
  | 0, _ => rfl
  | k + 1, m => by rw [leL, List.length_cons, leL_len k]
theorem leL_next : ∀ (k m : Nat), leL (k + 1) m = leL k m ++ [UInt8.ofNat (m / 256 ^ k)]
  | 0, m => by simp [leL]
  | k + 1, m => by
    rw [leL, leL_next k (m / 256), leL, List.cons_append, Nat.div_div_eq_div_mul, Nat.pow_succ, Nat.mul_comm]
/-- A number of so many bytes. -/
def WideOk (wd : Nat) : Prop := wd = 1 ∨ wd = 2 ∨ wd = 4 ∨ wd = 8

set_option maxRecDepth 20000 in
set_option maxHeartbeats 8000000 in
theorem oct_wide (wd : Nat) (hwd : WideOk wd) (w : World) : Calls Try.prog 72 #[.int .i64 (wd : Int)] w fun r w' => r = .returned (.bool true) ∧ w = w' := by
  rcases hwd with rfl | rfl | rfl | rfl
  all_goals
    go_enter Try.func72, Try.ntmps72
    go_wp2
    go_ret
    exact ⟨rfl, rfl⟩

/-- The writer behind some more bytes. -/
structure WrN (w w' : World) (base q : Nat) (sv sv' : Value) (l' : List UInt8) : Prop where
  st : WrS w' base q sv' l'
  keep : Keep (WrF q sv) w w'
  own : ∀ g, sv'.ownBlock = some g → sv.ownBlock = some g ∨ w.heap.size ≤ g

set_option maxRecDepth 20000 in
set_option maxHeartbeats 8000000 in
theorem oct_num1 (m : Nat) (hm : m < 256) (base q : Nat) (sv : Value) (l : List UInt8) (w : World) (hll : l.length ≤ 1000000) (hW : WrS w base q sv l) :
    Calls Try.prog 55 #[.pointer (some ⟨q, 0, none⟩), .int .i64 1, .int .u64 (m : Int)] w fun r w' => ∃ sv', r = .returned (.bool true) ∧ WrN w w' base q sv sv' (l ++ leL 1 m) := by
  obtain ⟨i0, hi0, hz0, hz1, hz2⟩ := info_parts' info_u8
  have HW := hid hW
  clear hW
  go_enter Try.func55, Try.ntmps55
  go_wp2_with fail
  refine (oct_wide 1 (by unfold WideOk; omega) _).mono ?_
  rintro r w1 ⟨rfl, rfl⟩
  have HM : Hid (m < 18446744073709551616) := hid (by omega)
  have g1 : ((m : Int) / 256 != 0) = false := by simp only [bne, beq_iff_eq.2 (show (m : Int) / 256 = 0 by omega)]; rfl
  go_wp2_with fail
  go_loopw [2, 27] (fun n i wr => ∃ (k m' : Nat) (sv' : Value) (l' : List UInt8), k ≤ 1 ∧ i = iV k ∧ n = .int .u64 (m' : Int) ∧ m' < 18446744073709551616 ∧ WrS wr base q sv' l' ∧ Keep (WrF q sv) w wr ∧ (∀ g, sv'.ownBlock = some g → sv.ownBlock = some g ∨ w.heap.size ≤ g) ∧ l' = l ++ leL k m ∧ m' = m / 256 ^ k) (fun _ i _ => 1 + 1 - (intOf i).toNat)
  case atStart => exact ⟨0, m, sv, l, Nat.zero_le _, rfl, rfl, HM.out, HW.out, Keep.refl _ _, fun g hg => .inl hg, by simp [leL], by simp⟩
  case round =>
    obtain ⟨k, m', sv', l', hk, rfl, rfl, hm', hws, hkr, how, hln0, hmk⟩ := hrel
    have hln : l'.length = l.length + k := by rw [hln0, List.length_append, leL_len]
    have HMK := hid hmk; have HL0 := hid hln0
    obtain ⟨vp, vc, rfl⟩ := owns_val hws.own
    have HKR := hid hkr; have HOW := hid how; have HWS := hid hws; have HLN := hid hln; have HM' := hid hm'
    clear hkr how hws hln hm' hln0 hmk
    by_cases hlt : k < 1
    · have c0 : wr.cell? ⟨q, 0, none⟩ = some (.slice vp l'.length vc) := cell_of HWS.out.block (by rfl)
      have f0 : wr.frozen? ⟨q, 0, none⟩ = false := free_of HWS.out.block 0
      have HQ := hid (lt_of_heap HWS.out.block)
      go_wp2_with (at_builtin; go_loud (refine wpList_append_rd rfl (.tmp 33) (.tmp 36) _ rfl base _ i0 _ 1 1 Try.underlying69 hi0 hz0 hz1 hz2 rfl (by decide) _ l'.length _ (by rfl) (HWS.out.own.alloc _) _ 1 _ (by rfl) (rd_block (heap_alloc_new wr _) (by simp) (by simp [Value.oneCell'])) (by unfold maxLen; have := HLN.out; omega) (by have := HLN.out; omega) (by have := HWS.out.base; have := HQ.out; simp; omega) ?_); go_loud (intro v' w5 hown5 hgrow5 hat5 hn5; obtain ⟨vq, vd, rfl⟩ := owns_val hown5; have HO5 := hid hown5; have HG5 := hid hgrow5; have HA5 := hid hat5; have HQ5 := hid ((HG5.out.block q (by have := HQ.out; simp; omega) (fun e => HWS.out.ne e.symm)).trans (((Keep.refl (fun _ => False) wr).alloc _).get HWS.out.block id)); have c5 : w5.cell? ⟨q, 0, none⟩ = some (.slice vp l'.length vc) := cell_of HQ5.out (by rfl); have f5 : w5.frozen? ⟨q, 0, none⟩ = false := free_of HQ5.out 0; clear hown5 hgrow5 hat5 hn5))
      have HNE : Hid ((Value.slice vq (l'.length + 1) vd).ownBlock ≠ some q) := hid (fun e => by
        rcases HA5.out with h | h
        · exact HWS.out.ne (h ▸ e)
        · have := HQ.out; have h2 := h.symm.trans e; simp at h2; omega)
      have HR : Hid (WrS (w5.setCell ⟨q, 0, none⟩ (.slice vq (l'.length + 1) vd)) base q (.slice vq (l'.length + 1) vd) (l' ++ [UInt8.ofNat m']) ∧ Keep (WrF q sv) w (w5.setCell ⟨q, 0, none⟩ (.slice vq (l'.length + 1) vd)) ∧ (∀ g, (Value.slice vq (l'.length + 1) vd).ownBlock = some g → sv.ownBlock = some g ∨ w.heap.size ≤ g)) := hid (by
        refine ⟨⟨?_, ?_, HNE.out, HWS.out.base⟩, ?_, fun g hg => ?_⟩
        · simpa using hsc_same HQ5.out 0 (.slice vq (l'.length + 1) vd)
        · rw [List.length_append, List.map_append]
          refine owns_keep (by simpa [byteV] using HO5.out) (fun g hg => hsc_ne _ (fun e => HNE.out (e ▸ hg)))
        · refine Keep.setCell (Keep.grown (HKR.out.alloc _) HG5.out (fun k hk => ?_)) (p := ⟨q, 0, none⟩) (.inl rfl) _
          rcases HOW.out k hk with h | h
          · exact .inr (.inr h)
          · exact .inl h
        · rcases HA5.out with h | h
          · exact HOW.out g (h ▸ hg)
          · refine .inr ?_
            have h2 := h.symm.trans hg
            have := HKR.out.size
            simp at h2
            omega)
      go_wp2
      go_roundw
      case rel => exact ⟨k + 1, m' / 256, _, _, by omega, by go_num, by simp, by have := HM'.out; omega, HR.out.1, HR.out.2.1, HR.out.2.2, by rw [HL0.out, leL_next, HMK.out, List.append_assoc], by rw [HMK.out, Nat.div_div_eq_div_mul, Nat.pow_succ]⟩
      case measure => simp [intOf]; omega
    · obtain rfl : k = 1 := by omega
      go_wp2
      go_ret
      exact ⟨_, rfl, by have h := HWS.out; have h2 := HOW.out; rw [HL0.out] at h h2; exact ⟨h, HKR.out, h2⟩⟩

set_option maxRecDepth 20000 in
set_option maxHeartbeats 8000000 in
theorem oct_num2 (m : Nat) (hm : m < 65536) (base q : Nat) (sv : Value) (l : List UInt8) (w : World) (hll : l.length ≤ 1000000) (hW : WrS w base q sv l) :
    Calls Try.prog 55 #[.pointer (some ⟨q, 0, none⟩), .int .i64 2, .int .u64 (m : Int)] w fun r w' => ∃ sv', r = .returned (.bool true) ∧ WrN w w' base q sv sv' (l ++ leL 2 m) := by
  obtain ⟨i0, hi0, hz0, hz1, hz2⟩ := info_parts' info_u8
  have HW := hid hW
  clear hW
  go_enter Try.func55, Try.ntmps55
  go_wp2_with fail
  refine (oct_wide 2 (by unfold WideOk; omega) _).mono ?_
  rintro r w1 ⟨rfl, rfl⟩
  have HM : Hid (m < 18446744073709551616) := hid (by omega)
  have g1 : ((m : Int) / 65536 != 0) = false := by simp only [bne, beq_iff_eq.2 (show (m : Int) / 65536 = 0 by omega)]; rfl
  go_wp2_with fail
  go_loopw [2, 27] (fun n i wr => ∃ (k m' : Nat) (sv' : Value) (l' : List UInt8), k ≤ 2 ∧ i = iV k ∧ n = .int .u64 (m' : Int) ∧ m' < 18446744073709551616 ∧ WrS wr base q sv' l' ∧ Keep (WrF q sv) w wr ∧ (∀ g, sv'.ownBlock = some g → sv.ownBlock = some g ∨ w.heap.size ≤ g) ∧ l' = l ++ leL k m ∧ m' = m / 256 ^ k) (fun _ i _ => 2 + 1 - (intOf i).toNat)
  case atStart => exact ⟨0, m, sv, l, Nat.zero_le _, rfl, rfl, HM.out, HW.out, Keep.refl _ _, fun g hg => .inl hg, by simp [leL], by simp⟩
  case round =>
    obtain ⟨k, m', sv', l', hk, rfl, rfl, hm', hws, hkr, how, hln0, hmk⟩ := hrel
    have hln : l'.length = l.length + k := by rw [hln0, List.length_append, leL_len]
    have HMK := hid hmk; have HL0 := hid hln0
    obtain ⟨vp, vc, rfl⟩ := owns_val hws.own
    have HKR := hid hkr; have HOW := hid how; have HWS := hid hws; have HLN := hid hln; have HM' := hid hm'
    clear hkr how hws hln hm' hln0 hmk
    by_cases hlt : k < 2
    · have c0 : wr.cell? ⟨q, 0, none⟩ = some (.slice vp l'.length vc) := cell_of HWS.out.block (by rfl)
      have f0 : wr.frozen? ⟨q, 0, none⟩ = false := free_of HWS.out.block 0
      have HQ := hid (lt_of_heap HWS.out.block)
      go_wp2_with (at_builtin; go_loud (refine wpList_append_rd rfl (.tmp 33) (.tmp 36) _ rfl base _ i0 _ 1 1 Try.underlying69 hi0 hz0 hz1 hz2 rfl (by decide) _ l'.length _ (by rfl) (HWS.out.own.alloc _) _ 1 _ (by rfl) (rd_block (heap_alloc_new wr _) (by simp) (by simp [Value.oneCell'])) (by unfold maxLen; have := HLN.out; omega) (by have := HLN.out; omega) (by have := HWS.out.base; have := HQ.out; simp; omega) ?_); go_loud (intro v' w5 hown5 hgrow5 hat5 hn5; obtain ⟨vq, vd, rfl⟩ := owns_val hown5; have HO5 := hid hown5; have HG5 := hid hgrow5; have HA5 := hid hat5; have HQ5 := hid ((HG5.out.block q (by have := HQ.out; simp; omega) (fun e => HWS.out.ne e.symm)).trans (((Keep.refl (fun _ => False) wr).alloc _).get HWS.out.block id)); have c5 : w5.cell? ⟨q, 0, none⟩ = some (.slice vp l'.length vc) := cell_of HQ5.out (by rfl); have f5 : w5.frozen? ⟨q, 0, none⟩ = false := free_of HQ5.out 0; clear hown5 hgrow5 hat5 hn5))
      have HNE : Hid ((Value.slice vq (l'.length + 1) vd).ownBlock ≠ some q) := hid (fun e => by
        rcases HA5.out with h | h
        · exact HWS.out.ne (h ▸ e)
        · have := HQ.out; have h2 := h.symm.trans e; simp at h2; omega)
      have HR : Hid (WrS (w5.setCell ⟨q, 0, none⟩ (.slice vq (l'.length + 1) vd)) base q (.slice vq (l'.length + 1) vd) (l' ++ [UInt8.ofNat m']) ∧ Keep (WrF q sv) w (w5.setCell ⟨q, 0, none⟩ (.slice vq (l'.length + 1) vd)) ∧ (∀ g, (Value.slice vq (l'.length + 1) vd).ownBlock = some g → sv.ownBlock = some g ∨ w.heap.size ≤ g)) := hid (by
        refine ⟨⟨?_, ?_, HNE.out, HWS.out.base⟩, ?_, fun g hg => ?_⟩
        · simpa using hsc_same HQ5.out 0 (.slice vq (l'.length + 1) vd)
        · rw [List.length_append, List.map_append]
          refine owns_keep (by simpa [byteV] using HO5.out) (fun g hg => hsc_ne _ (fun e => HNE.out (e ▸ hg)))
        · refine Keep.setCell (Keep.grown (HKR.out.alloc _) HG5.out (fun k hk => ?_)) (p := ⟨q, 0, none⟩) (.inl rfl) _
          rcases HOW.out k hk with h | h
          · exact .inr (.inr h)
          · exact .inl h
        · rcases HA5.out with h | h
          · exact HOW.out g (h ▸ hg)
          · refine .inr ?_
            have h2 := h.symm.trans hg
            have := HKR.out.size
            simp at h2
            omega)
      go_wp2
      go_roundw
      case rel => exact ⟨k + 1, m' / 256, _, _, by omega, by go_num, by simp, by have := HM'.out; omega, HR.out.1, HR.out.2.1, HR.out.2.2, by rw [HL0.out, leL_next, HMK.out, List.append_assoc], by rw [HMK.out, Nat.div_div_eq_div_mul, Nat.pow_succ]⟩
      case measure => simp [intOf]; omega
    · obtain rfl : k = 2 := by omega
      go_wp2
      go_ret
      exact ⟨_, rfl, by have h := HWS.out; have h2 := HOW.out; rw [HL0.out] at h h2; exact ⟨h, HKR.out, h2⟩⟩

set_option maxRecDepth 20000 in
set_option maxHeartbeats 8000000 in
theorem oct_num4 (m : Nat) (hm : m < 4294967296) (base q : Nat) (sv : Value) (l : List UInt8) (w : World) (hll : l.length ≤ 1000000) (hW : WrS w base q sv l) :
    Calls Try.prog 55 #[.pointer (some ⟨q, 0, none⟩), .int .i64 4, .int .u64 (m : Int)] w fun r w' => ∃ sv', r = .returned (.bool true) ∧ WrN w w' base q sv sv' (l ++ leL 4 m) := by
  obtain ⟨i0, hi0, hz0, hz1, hz2⟩ := info_parts' info_u8
  have HW := hid hW
  clear hW
  go_enter Try.func55, Try.ntmps55
  go_wp2_with fail
  refine (oct_wide 4 (by unfold WideOk; omega) _).mono ?_
  rintro r w1 ⟨rfl, rfl⟩
  have HM : Hid (m < 18446744073709551616) := hid (by omega)
  have g1 : ((m : Int) / 4294967296 != 0) = false := by simp only [bne, beq_iff_eq.2 (show (m : Int) / 4294967296 = 0 by omega)]; rfl
  go_wp2_with fail
  go_loopw [2, 27] (fun n i wr => ∃ (k m' : Nat) (sv' : Value) (l' : List UInt8), k ≤ 4 ∧ i = iV k ∧ n = .int .u64 (m' : Int) ∧ m' < 18446744073709551616 ∧ WrS wr base q sv' l' ∧ Keep (WrF q sv) w wr ∧ (∀ g, sv'.ownBlock = some g → sv.ownBlock = some g ∨ w.heap.size ≤ g) ∧ l' = l ++ leL k m ∧ m' = m / 256 ^ k) (fun _ i _ => 4 + 1 - (intOf i).toNat)
  case atStart => exact ⟨0, m, sv, l, Nat.zero_le _, rfl, rfl, HM.out, HW.out, Keep.refl _ _, fun g hg => .inl hg, by simp [leL], by simp⟩
  case round =>
    obtain ⟨k, m', sv', l', hk, rfl, rfl, hm', hws, hkr, how, hln0, hmk⟩ := hrel
    have hln : l'.length = l.length + k := by rw [hln0, List.length_append, leL_len]
    have HMK := hid hmk; have HL0 := hid hln0
    obtain ⟨vp, vc, rfl⟩ := owns_val hws.own
    have HKR := hid hkr; have HOW := hid how; have HWS := hid hws; have HLN := hid hln; have HM' := hid hm'
    clear hkr how hws hln hm' hln0 hmk
    by_cases hlt : k < 4
    · have c0 : wr.cell? ⟨q, 0, none⟩ = some (.slice vp l'.length vc) := cell_of HWS.out.block (by rfl)
      have f0 : wr.frozen? ⟨q, 0, none⟩ = false := free_of HWS.out.block 0
      have HQ := hid (lt_of_heap HWS.out.block)
      go_wp2_with (at_builtin; go_loud (refine wpList_append_rd rfl (.tmp 33) (.tmp 36) _ rfl base _ i0 _ 1 1 Try.underlying69 hi0 hz0 hz1 hz2 rfl (by decide) _ l'.length _ (by rfl) (HWS.out.own.alloc _) _ 1 _ (by rfl) (rd_block (heap_alloc_new wr _) (by simp) (by simp [Value.oneCell'])) (by unfold maxLen; have := HLN.out; omega) (by have := HLN.out; omega) (by have := HWS.out.base; have := HQ.out; simp; omega) ?_); go_loud (intro v' w5 hown5 hgrow5 hat5 hn5; obtain ⟨vq, vd, rfl⟩ := owns_val hown5; have HO5 := hid hown5; have HG5 := hid hgrow5; have HA5 := hid hat5; have HQ5 := hid ((HG5.out.block q (by have := HQ.out; simp; omega) (fun e => HWS.out.ne e.symm)).trans (((Keep.refl (fun _ => False) wr).alloc _).get HWS.out.block id)); have c5 : w5.cell? ⟨q, 0, none⟩ = some (.slice vp l'.length vc) := cell_of HQ5.out (by rfl); have f5 : w5.frozen? ⟨q, 0, none⟩ = false := free_of HQ5.out 0; clear hown5 hgrow5 hat5 hn5))
      have HNE : Hid ((Value.slice vq (l'.length + 1) vd).ownBlock ≠ some q) := hid (fun e => by
        rcases HA5.out with h | h
        · exact HWS.out.ne (h ▸ e)
        · have := HQ.out; have h2 := h.symm.trans e; simp at h2; omega)
      have HR : Hid (WrS (w5.setCell ⟨q, 0, none⟩ (.slice vq (l'.length + 1) vd)) base q (.slice vq (l'.length + 1) vd) (l' ++ [UInt8.ofNat m']) ∧ Keep (WrF q sv) w (w5.setCell ⟨q, 0, none⟩ (.slice vq (l'.length + 1) vd)) ∧ (∀ g, (Value.slice vq (l'.length + 1) vd).ownBlock = some g → sv.ownBlock = some g ∨ w.heap.size ≤ g)) := hid (by
        refine ⟨⟨?_, ?_, HNE.out, HWS.out.base⟩, ?_, fun g hg => ?_⟩
        · simpa using hsc_same HQ5.out 0 (.slice vq (l'.length + 1) vd)
        · rw [List.length_append, List.map_append]
          refine owns_keep (by simpa [byteV] using HO5.out) (fun g hg => hsc_ne _ (fun e => HNE.out (e ▸ hg)))
        · refine Keep.setCell (Keep.grown (HKR.out.alloc _) HG5.out (fun k hk => ?_)) (p := ⟨q, 0, none⟩) (.inl rfl) _
          rcases HOW.out k hk with h | h
          · exact .inr (.inr h)
          · exact .inl h
        · rcases HA5.out with h | h
          · exact HOW.out g (h ▸ hg)
          · refine .inr ?_
            have h2 := h.symm.trans hg
            have := HKR.out.size
            simp at h2
            omega)
      go_wp2
      go_roundw
      case rel => exact ⟨k + 1, m' / 256, _, _, by omega, by go_num, by simp, by have := HM'.out; omega, HR.out.1, HR.out.2.1, HR.out.2.2, by rw [HL0.out, leL_next, HMK.out, List.append_assoc], by rw [HMK.out, Nat.div_div_eq_div_mul, Nat.pow_succ]⟩
      case measure => simp [intOf]; omega
    · obtain rfl : k = 4 := by omega
      go_wp2
      go_ret
      exact ⟨_, rfl, by have h := HWS.out; have h2 := HOW.out; rw [HL0.out] at h h2; exact ⟨h, HKR.out, h2⟩⟩

set_option maxRecDepth 20000 in
set_option maxHeartbeats 8000000 in
theorem oct_num8 (m : Nat) (hm : m < 18446744073709551616) (base q : Nat) (sv : Value) (l : List UInt8) (w : World) (hll : l.length ≤ 1000000) (hW : WrS w base q sv l) :
    Calls Try.prog 55 #[.pointer (some ⟨q, 0, none⟩), .int .i64 8, .int .u64 (m : Int)] w fun r w' => ∃ sv', r = .returned (.bool true) ∧ WrN w w' base q sv sv' (l ++ leL 8 m) := by
  obtain ⟨i0, hi0, hz0, hz1, hz2⟩ := info_parts' info_u8
  have HW := hid hW
  clear hW
  go_enter Try.func55, Try.ntmps55
  go_wp2_with fail
  refine (oct_wide 8 (by unfold WideOk; omega) _).mono ?_
  rintro r w1 ⟨rfl, rfl⟩
  have HM : Hid (m < 18446744073709551616) := hid (by omega)
  go_wp2_with fail
  go_loopw [2, 27] (fun n i wr => ∃ (k m' : Nat) (sv' : Value) (l' : List UInt8), k ≤ 8 ∧ i = iV k ∧ n = .int .u64 (m' : Int) ∧ m' < 18446744073709551616 ∧ WrS wr base q sv' l' ∧ Keep (WrF q sv) w wr ∧ (∀ g, sv'.ownBlock = some g → sv.ownBlock = some g ∨ w.heap.size ≤ g) ∧ l' = l ++ leL k m ∧ m' = m / 256 ^ k) (fun _ i _ => 8 + 1 - (intOf i).toNat)
  case atStart => exact ⟨0, m, sv, l, Nat.zero_le _, rfl, rfl, HM.out, HW.out, Keep.refl _ _, fun g hg => .inl hg, by simp [leL], by simp⟩
  case round =>
    obtain ⟨k, m', sv', l', hk, rfl, rfl, hm', hws, hkr, how, hln0, hmk⟩ := hrel
    have hln : l'.length = l.length + k := by rw [hln0, List.length_append, leL_len]
    have HMK := hid hmk; have HL0 := hid hln0
    obtain ⟨vp, vc, rfl⟩ := owns_val hws.own
    have HKR := hid hkr; have HOW := hid how; have HWS := hid hws; have HLN := hid hln; have HM' := hid hm'
    clear hkr how hws hln hm' hln0 hmk
    by_cases hlt : k < 8
    · have c0 : wr.cell? ⟨q, 0, none⟩ = some (.slice vp l'.length vc) := cell_of HWS.out.block (by rfl)
      have f0 : wr.frozen? ⟨q, 0, none⟩ = false := free_of HWS.out.block 0
      have HQ := hid (lt_of_heap HWS.out.block)
      go_wp2_with (at_builtin; go_loud (refine wpList_append_rd rfl (.tmp 33) (.tmp 36) _ rfl base _ i0 _ 1 1 Try.underlying69 hi0 hz0 hz1 hz2 rfl (by decide) _ l'.length _ (by rfl) (HWS.out.own.alloc _) _ 1 _ (by rfl) (rd_block (heap_alloc_new wr _) (by simp) (by simp [Value.oneCell'])) (by unfold maxLen; have := HLN.out; omega) (by have := HLN.out; omega) (by have := HWS.out.base; have := HQ.out; simp; omega) ?_); go_loud (intro v' w5 hown5 hgrow5 hat5 hn5; obtain ⟨vq, vd, rfl⟩ := owns_val hown5; have HO5 := hid hown5; have HG5 := hid hgrow5; have HA5 := hid hat5; have HQ5 := hid ((HG5.out.block q (by have := HQ.out; simp; omega) (fun e => HWS.out.ne e.symm)).trans (((Keep.refl (fun _ => False) wr).alloc _).get HWS.out.block id)); have c5 : w5.cell? ⟨q, 0, none⟩ = some (.slice vp l'.length vc) := cell_of HQ5.out (by rfl); have f5 : w5.frozen? ⟨q, 0, none⟩ = false := free_of HQ5.out 0; clear hown5 hgrow5 hat5 hn5))
      have HNE : Hid ((Value.slice vq (l'.length + 1) vd).ownBlock ≠ some q) := hid (fun e => by
        rcases HA5.out with h | h
        · exact HWS.out.ne (h ▸ e)
        · have := HQ.out; have h2 := h.symm.trans e; simp at h2; omega)
      have HR : Hid (WrS (w5.setCell ⟨q, 0, none⟩ (.slice vq (l'.length + 1) vd)) base q (.slice vq (l'.length + 1) vd) (l' ++ [UInt8.ofNat m']) ∧ Keep (WrF q sv) w (w5.setCell ⟨q, 0, none⟩ (.slice vq (l'.length + 1) vd)) ∧ (∀ g, (Value.slice vq (l'.length + 1) vd).ownBlock = some g → sv.ownBlock = some g ∨ w.heap.size ≤ g)) := hid (by
        refine ⟨⟨?_, ?_, HNE.out, HWS.out.base⟩, ?_, fun g hg => ?_⟩
        · simpa using hsc_same HQ5.out 0 (.slice vq (l'.length + 1) vd)
        · rw [List.length_append, List.map_append]
          refine owns_keep (by simpa [byteV] using HO5.out) (fun g hg => hsc_ne _ (fun e => HNE.out (e ▸ hg)))
        · refine Keep.setCell (Keep.grown (HKR.out.alloc _) HG5.out (fun k hk => ?_)) (p := ⟨q, 0, none⟩) (.inl rfl) _
          rcases HOW.out k hk with h | h
          · exact .inr (.inr h)
          · exact .inl h
        · rcases HA5.out with h | h
          · exact HOW.out g (h ▸ hg)
          · refine .inr ?_
            have h2 := h.symm.trans hg
            have := HKR.out.size
            simp at h2
            omega)
      go_wp2
      go_roundw
      case rel => exact ⟨k + 1, m' / 256, _, _, by omega, by go_num, by simp, by have := HM'.out; omega, HR.out.1, HR.out.2.1, HR.out.2.2, by rw [HL0.out, leL_next, HMK.out, List.append_assoc], by rw [HMK.out, Nat.div_div_eq_div_mul, Nat.pow_succ]⟩
      case measure => simp [intOf]; omega
    · obtain rfl : k = 8 := by omega
      go_wp2
      go_ret
      exact ⟨_, rfl, by have h := HWS.out; have h2 := HOW.out; rw [HL0.out] at h h2; exact ⟨h, HKR.out, h2⟩⟩

theorem run_wr_string {w : World} {base q : Nat} {sv : Value} {l : List UInt8} (h : WrS w base q sv l) :
    (convert 69 9 sv).run Try.prog w = .ok (.string ⟨l.toArray⟩) w := by
  rcases owns_block h.own with ⟨rfl, h0, h1⟩ | ⟨g, cap, cur, rfl, _, hg, _⟩
  · obtain rfl : l = [] := by simpa using h1
    kernel_rfl
  · refine run_bytes_string w _ _ 5 (by kernel_rfl) (by kernel_rfl) (by kernel_rfl) g 0 _ cap l rfl fun i x hx => ?_
    rw [Nat.zero_add, owns_cell h.own (List.getElem?_eq_some_iff.1 hx).1, List.getElem?_map, hx]
    rfl

set_option maxRecDepth 20000 in
set_option maxHeartbeats 8000000 in
theorem wr_string (base q : Nat) (sv : Value) (l : List UInt8) (w : World) (hW : WrS w base q sv l) :
    Calls Try.prog 57 #[.pointer (some ⟨q, 0, none⟩)] w fun r w' => r = .returned (.string ⟨l.toArray⟩) ∧ w = w' := by
  have hr := run_wr_string hW
  have c0 : w.cell? ⟨q, 0, none⟩ = some sv := cell_of hW.block (by rfl)
  obtain ⟨vp, vc, rfl⟩ := owns_val hW.own
  clear hW
  go_enter Try.func57, Try.ntmps57
  go_wp2
  go_ret
  exact ⟨rfl, rfl⟩
end Go.Proofs.Ytkgkcnmnfhehfaa
