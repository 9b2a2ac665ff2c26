/- What is proved: what isIns, args and Check of the formulas answer. -/
import Derived.Test.YtenoeondfdiklaaIns
import Derived.Test.YtenoeondfdiklaaWide
import Derived.Test.YtenoeondfdiklaaRegion
import Derived.Deep.Cut
import Derived.Deep.CutRange
import Derived.Deep.CutBlock
namespace Go.Proofs.Ytenoeondfdiklaa
open Go.RowKit Go.Proofs.Heap Go.Proofs.Sch Go.Proofs.Wide

abbrev InV (x : Ins) : Value := .agg #[.int .i64 x.op, .int .i64 x.a, .int .i64 x.b, .bool x.k.neg, .int .u64 (x.k.hi : Int), .int .u64 (x.k.lo : Int)]
abbrev InC (x : Ins) : Array Value := #[.int .i64 x.op, .int .i64 x.a, .int .i64 x.b, .bool x.k.neg, .int .u64 (x.k.hi : Int), .int .u64 (x.k.lo : Int)]
/-- Whether an instruction can be. -/
def insB (x : Ins) : Bool := decide (1 ≤ x.op ∧ x.op ≤ 17) && (x.k.form && decide (0 ≤ x.a ∧ 0 ≤ x.b ∧ x.a < 8 ∧ x.b < 8))
/-- How many numbers an instruction takes. -/
def argsN (op : Int) : Nat := if op = 1 ∨ op = 2 ∨ op = 3 ∨ op = 4 then 0 else if op = 10 ∨ op = 15 then 1 else if op = 16 then 3 else 2

set_option maxRecDepth 20000 in
set_option maxHeartbeats 4000000 in
theorem is_ins (x : Ins) (hx : x.k.fit) (w : World) : Calls Try.prog 28 #[InV x] w fun r w' => r = .returned (.bool (insB x)) ∧ Keep (fun _ => False) w w' := by
  obtain ⟨op, a, b, ⟨kn, kh, kl⟩⟩ := x
  have HB := hid (heap_alloc_new w (.cells #[.int .i64 op, .int .i64 a, .int .i64 b, .bool kn, .int .u64 (kh : Int), .int .u64 (kl : Int)] 64))
  have HK := hid ((Keep.refl (fun _ => False) w).alloc (.cells #[.int .i64 op, .int .i64 a, .int .i64 b, .bool kn, .int .u64 (kh : Int), .int .u64 (kl : Int)] 64))
  have HX := hid hx
  have hib : insB ⟨op, a, b, ⟨kn, kh, kl⟩⟩ = (decide (1 ≤ op ∧ op ≤ 17) && (WI.form ⟨kn, kh, kl⟩ && decide (0 ≤ a ∧ 0 ≤ b ∧ a < 8 ∧ b < 8))) := rfl
  have HI := hid hib
  clear hib hx
  go_enter Try.func28, Try.ntmps28
  go_upto_region 1 with fail
  generalize w.alloc (.cells #[.int .i64 op, .int .i64 a, .int .i64 b, .bool kn, .int .u64 (kh : Int), .int .u64 (kl : Int)] 64) = w1 at *
  generalize w.heap.size = sb at *
  have HW : Hid (∀ wy, Keep (fun _ => False) w1 wy → wy.cell? ⟨sb, 0, none⟩ = some (.int .i64 op) ∧ wy.cell? ⟨sb, 1, none⟩ = some (.int .i64 a) ∧ wy.cell? ⟨sb, 2, none⟩ = some (.int .i64 b) ∧ wy.cell? ⟨sb, 3, none⟩ = some (.bool kn) ∧ wy.cell? ⟨sb, 4, none⟩ = some (.int .u64 (kh : Int)) ∧ wy.cell? ⟨sb, 5, none⟩ = some (.int .u64 (kl : Int))) := hid (fun wy hk =>
    ⟨cell_of (hk.get HB.out id) (by rfl), cell_of (hk.get HB.out id) (by rfl), cell_of (hk.get HB.out id) (by rfl), cell_of (hk.get HB.out id) (by rfl), cell_of (hk.get HB.out id) (by rfl), cell_of (hk.get HB.out id) (by rfl)⟩)
  obtain ⟨s0, s1, s2, s3, s4, s5⟩ := HW.out _ (Keep.refl _ _)
  by_cases h1 : 1 ≤ op
  rotate_left
  · have g1 : decide (1 ≤ op) = false := decide_eq_false h1
    have G : Hid (decide (1 ≤ op ∧ op ≤ 17) = false) := hid (decide_eq_false (fun h => h1 h.1))
    go_wp2
    go_ret
    exact ⟨by rw [HI.out, G.out]; rfl, HK.out⟩
  have g1 : decide (1 ≤ op) = true := decide_eq_true h1
  by_cases h2 : op ≤ 17
  rotate_left
  · have g2 : decide (op ≤ 17) = false := decide_eq_false h2
    have G : Hid (decide (1 ≤ op ∧ op ≤ 17) = false) := hid (decide_eq_false (fun h => h2 h.2))
    go_wp2
    go_ret
    exact ⟨by rw [HI.out, G.out]; rfl, HK.out⟩
  have g2 : decide (op ≤ 17) = true := decide_eq_true h2
  have GO : Hid (decide (1 ≤ op ∧ op ≤ 17) = true) := hid (decide_eq_true ⟨h1, h2⟩)
  go_wp2_with fail
  refine (w_form ⟨kn, kh, kl⟩ HX.out _).mono ?_
  rintro r w2 ⟨rfl, hk2⟩
  have HK2 := hid hk2
  clear hk2 s0 s1 s2 s3 s4 s5 g1 g2 h1 h2
  cases hfm : WI.form ⟨kn, kh, kl⟩
  · have HFM := hid hfm
    clear hfm
    go_wp2
    go_ret
    exact ⟨by rw [HI.out, HFM.out, GO.out]; rfl, HK.out.trans HK2.out⟩
  have HFM := hid hfm
  clear hfm
  obtain ⟨s0, s1, s2, s3, s4, s5⟩ := HW.out _ HK2.out
  rcases Int.lt_trichotomy a b with hab | hab | hab
  · have hle : a ≤ b := by omega
    have hnb : ¬ b < a := by omega
    have hnl : ¬ b ≤ a := by omega
    by_cases hlo : 0 ≤ a
    · have q1 : decide (0 ≤ a) = true := decide_eq_true hlo
      by_cases hhi : b < 8
      · have q2 : decide (b < 8) = true := decide_eq_true hhi
        have G : Hid (decide (0 ≤ a ∧ 0 ≤ b ∧ a < 8 ∧ b < 8) = true) := hid (decide_eq_true (by omega))
        go_wp2
        go_ret
        exact ⟨by rw [HI.out, HFM.out, GO.out, G.out]; rfl, HK.out.trans HK2.out⟩
      · have q2 : decide (b < 8) = false := decide_eq_false hhi
        have G : Hid (decide (0 ≤ a ∧ 0 ≤ b ∧ a < 8 ∧ b < 8) = false) := hid (decide_eq_false (by omega))
        go_wp2
        go_ret
        exact ⟨by rw [HI.out, HFM.out, GO.out, G.out]; rfl, HK.out.trans HK2.out⟩
    · have q1 : decide (0 ≤ a) = false := decide_eq_false hlo
      have G : Hid (decide (0 ≤ a ∧ 0 ≤ b ∧ a < 8 ∧ b < 8) = false) := hid (decide_eq_false (by omega))
      go_wp2
      go_ret
      exact ⟨by rw [HI.out, HFM.out, GO.out, G.out]; rfl, HK.out.trans HK2.out⟩
  · subst hab
    have hle : a ≤ a := Int.le_refl _
    have hnb : ¬ a < a := by omega
    by_cases hlo : 0 ≤ a
    · have q1 : decide (0 ≤ a) = true := decide_eq_true hlo
      by_cases hhi : a < 8
      · have q2 : decide (a < 8) = true := decide_eq_true hhi
        have G : Hid (decide (0 ≤ a ∧ 0 ≤ a ∧ a < 8 ∧ a < 8) = true) := hid (decide_eq_true (by omega))
        go_wp2
        go_ret
        exact ⟨by rw [HI.out, HFM.out, GO.out, G.out]; rfl, HK.out.trans HK2.out⟩
      · have q2 : decide (a < 8) = false := decide_eq_false hhi
        have G : Hid (decide (0 ≤ a ∧ 0 ≤ a ∧ a < 8 ∧ a < 8) = false) := hid (decide_eq_false (by omega))
        go_wp2
        go_ret
        exact ⟨by rw [HI.out, HFM.out, GO.out, G.out]; rfl, HK.out.trans HK2.out⟩
    · have q1 : decide (0 ≤ a) = false := decide_eq_false hlo
      have G : Hid (decide (0 ≤ a ∧ 0 ≤ a ∧ a < 8 ∧ a < 8) = false) := hid (decide_eq_false (by omega))
      go_wp2
      go_ret
      exact ⟨by rw [HI.out, HFM.out, GO.out, G.out]; rfl, HK.out.trans HK2.out⟩
  · have hle : b ≤ a := by omega
    have hnb : ¬ a < b := by omega
    have hnl : ¬ a ≤ b := by omega
    by_cases hlo : 0 ≤ b
    · have q1 : decide (0 ≤ b) = true := decide_eq_true hlo
      by_cases hhi : a < 8
      · have q2 : decide (a < 8) = true := decide_eq_true hhi
        have G : Hid (decide (0 ≤ a ∧ 0 ≤ b ∧ a < 8 ∧ b < 8) = true) := hid (decide_eq_true (by omega))
        go_wp2
        go_ret
        exact ⟨by rw [HI.out, HFM.out, GO.out, G.out]; rfl, HK.out.trans HK2.out⟩
      · have q2 : decide (a < 8) = false := decide_eq_false hhi
        have G : Hid (decide (0 ≤ a ∧ 0 ≤ b ∧ a < 8 ∧ b < 8) = false) := hid (decide_eq_false (by omega))
        go_wp2
        go_ret
        exact ⟨by rw [HI.out, HFM.out, GO.out, G.out]; rfl, HK.out.trans HK2.out⟩
    · have q1 : decide (0 ≤ b) = false := decide_eq_false hlo
      have G : Hid (decide (0 ≤ a ∧ 0 ≤ b ∧ a < 8 ∧ b < 8) = false) := hid (decide_eq_false (by omega))
      go_wp2
      go_ret
      exact ⟨by rw [HI.out, HFM.out, GO.out, G.out]; rfl, HK.out.trans HK2.out⟩

set_option maxRecDepth 20000 in
set_option maxHeartbeats 4000000 in
theorem args_of (x : Ins) (w : World) : Calls Try.prog 29 #[InV x] w fun r w' => r = .returned (.int .i64 (argsN x.op : Int)) ∧ Keep (fun _ => False) w w' := by
  obtain ⟨op, a, b, ⟨kn, kh, kl⟩⟩ := x
  have HB := hid (heap_alloc_new w (.cells #[.int .i64 op, .int .i64 a, .int .i64 b, .bool kn, .int .u64 (kh : Int), .int .u64 (kl : Int)] 64))
  have HK := hid ((Keep.refl (fun _ => False) w).alloc (.cells #[.int .i64 op, .int .i64 a, .int .i64 b, .bool kn, .int .u64 (kh : Int), .int .u64 (kl : Int)] 64))
  simp only
  go_enter Try.func29, Try.ntmps29
  go_upto_region 1 with fail
  generalize w.alloc (.cells #[.int .i64 op, .int .i64 a, .int .i64 b, .bool kn, .int .u64 (kh : Int), .int .u64 (kl : Int)] 64) = w1 at *
  generalize w.heap.size = sb at *
  have s0 : w1.cell? ⟨sb, 0, none⟩ = some (.int .i64 op) := cell_of HB.out (by rfl)
  by_cases h1 : op = 1
  · subst h1; go_wp2; go_ret; exact ⟨rfl, HK.out⟩
  by_cases h2 : op = 2
  · subst h2; go_wp2; go_ret; exact ⟨rfl, HK.out⟩
  by_cases h3 : op = 3
  · subst h3; go_wp2; go_ret; exact ⟨rfl, HK.out⟩
  by_cases h4 : op = 4
  · subst h4; go_wp2; go_ret; exact ⟨rfl, HK.out⟩
  by_cases h10 : op = 10
  · subst h10; go_wp2; go_ret; exact ⟨rfl, HK.out⟩
  by_cases h15 : op = 15
  · subst h15; go_wp2; go_ret; exact ⟨rfl, HK.out⟩
  by_cases h16 : op = 16
  · subst h16; go_wp2; go_ret; exact ⟨rfl, HK.out⟩
  have g1 : (op == 1) = false := beq_eq_false_iff_ne.2 h1
  have g2 : (op == 2) = false := beq_eq_false_iff_ne.2 h2
  have g3 : (op == 3) = false := beq_eq_false_iff_ne.2 h3
  have g4 : (op == 4) = false := beq_eq_false_iff_ne.2 h4
  have g10 : (op == 10) = false := beq_eq_false_iff_ne.2 h10
  have g15 : (op == 15) = false := beq_eq_false_iff_ne.2 h15
  have g16 : (op == 16) = false := beq_eq_false_iff_ne.2 h16
  have G : Hid (argsN op = 2) := hid (by unfold argsN; rw [if_neg (by omega), if_neg (by omega), if_neg h16])
  clear h1 h2 h3 h4 h10 h15 h16
  go_wp2
  go_ret
  exact ⟨by rw [G.out]; rfl, HK.out⟩
end Go.Proofs.Ytenoeondfdiklaa
