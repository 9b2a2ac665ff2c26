/- What is proved: what Takes of the document's formulas answers. -/
import Derived.Test.YtenoeondfdiklaaChk3
namespace Go.Proofs.Ytenoeondfdiklaa
open Go.RowKit Go.Proofs.Heap Go.Proofs.Sch Go.Proofs.Wide

/-- How many numbers an operation takes, as the document says it. -/
def takesN (op : Int) : Nat := if 5 ≤ op ∧ op ≤ 17 then argsN op else 0
theorem takesN_eq {op : Int} (h1 : 1 ≤ op) (h2 : op ≤ 17) : takesN op = argsN op := by
  unfold takesN
  by_cases h : 5 ≤ op
  · rw [if_pos ⟨h, h2⟩]
  · rw [if_neg (fun e => h e.1)]
    unfold argsN
    rw [if_pos (by omega)]

set_option maxRecDepth 20000 in
set_option maxHeartbeats 8000000 in
theorem takes_of (op : Int) (w : World) : Calls Try.prog 31 #[.int .i64 op] w fun r w' => r = .returned (.int .i64 (takesN op : Int)) ∧ Keep (fun _ => False) w w' := by
  by_cases h5 : 5 ≤ op
  rotate_left
  · have g1 : decide (op < 5) = true := decide_eq_true (by omega)
    have G : Hid (takesN op = 0) := hid (by unfold takesN; rw [if_neg (fun e => h5 e.1)])
    go_enter Try.func31, Try.ntmps31
    go_wp2
    go_ret
    exact ⟨by rw [G.out]; rfl, Keep.refl _ _⟩
  by_cases h17 : op ≤ 17
  rotate_left
  · have g1 : decide (op < 5) = false := decide_eq_false (by omega)
    have g2 : decide (17 < op) = true := decide_eq_true (by omega)
    have G : Hid (takesN op = 0) := hid (by unfold takesN; rw [if_neg (fun e => h17 e.2)])
    go_enter Try.func31, Try.ntmps31
    go_wp2
    go_ret
    exact ⟨by rw [G.out]; rfl, Keep.refl _ _⟩
  have hcs : op = 5 ∨ op = 6 ∨ op = 7 ∨ op = 8 ∨ op = 9 ∨ op = 10 ∨ op = 11 ∨ op = 12 ∨ op = 13 ∨ op = 14 ∨ op = 15 ∨ op = 16 ∨ op = 17 := by omega
  have g1 : decide (op < 5) = false := decide_eq_false (by omega)
  have g2 : decide (17 < op) = false := decide_eq_false (by omega)
  obtain ⟨w1, hw1, hb1, hs1, hk1⟩ := box1 w #[.int .i64 0, .int .i64 0, .int .i64 0, .int .i64 0, .int .i64 0, .int .i64 2, .int .i64 2, .int .i64 2, .int .i64 2, .int .i64 2, .int .i64 1, .int .i64 2, .int .i64 2, .int .i64 2, .int .i64 2, .int .i64 1, .int .i64 3, .int .i64 2] 92
  have HK := hid hk1
  have HB := hid hb1
  have HCS := hid hcs
  clear hs1 hk1 hb1 hcs h5 h17
  go_enter Try.func31, Try.ntmps31
  go_upto_region 4 with fail
  rw [← hw1]
  clear hw1 g1 g2
  generalize w.heap.size = sb at *
  generalize (Value.agg #[.int .i64 0, .int .i64 0, .int .i64 0, .int .i64 0, .int .i64 0, .int .i64 2, .int .i64 2, .int .i64 2, .int .i64 2, .int .i64 2, .int .i64 1, .int .i64 2, .int .i64 2, .int .i64 2, .int .i64 2, .int .i64 1, .int .i64 3, .int .i64 2]) = av at *
  rcases HCS.out with rfl | rfl | rfl | rfl | rfl | rfl | rfl | rfl | rfl | rfl | rfl | rfl | rfl
  · have c : w1.cell? ⟨sb, 5, none⟩ = some (.int .i64 2) := cell_of HB.out (by rfl)
    clear HB HCS
    go_wp2
    go_ret
    exact ⟨rfl, HK.out⟩
  · have c : w1.cell? ⟨sb, 6, none⟩ = some (.int .i64 2) := cell_of HB.out (by rfl)
    clear HB HCS
    go_wp2
    go_ret
    exact ⟨rfl, HK.out⟩
  · have c : w1.cell? ⟨sb, 7, none⟩ = some (.int .i64 2) := cell_of HB.out (by rfl)
    clear HB HCS
    go_wp2
    go_ret
    exact ⟨rfl, HK.out⟩
  · have c : w1.cell? ⟨sb, 8, none⟩ = some (.int .i64 2) := cell_of HB.out (by rfl)
    clear HB HCS
    go_wp2
    go_ret
    exact ⟨rfl, HK.out⟩
  · have c : w1.cell? ⟨sb, 9, none⟩ = some (.int .i64 2) := cell_of HB.out (by rfl)
    clear HB HCS
    go_wp2
    go_ret
    exact ⟨rfl, HK.out⟩
  · have c : w1.cell? ⟨sb, 10, none⟩ = some (.int .i64 1) := cell_of HB.out (by rfl)
    clear HB HCS
    go_wp2
    go_ret
    exact ⟨rfl, HK.out⟩
  · have c : w1.cell? ⟨sb, 11, none⟩ = some (.int .i64 2) := cell_of HB.out (by rfl)
    clear HB HCS
    go_wp2
    go_ret
    exact ⟨rfl, HK.out⟩
  · have c : w1.cell? ⟨sb, 12, none⟩ = some (.int .i64 2) := cell_of HB.out (by rfl)
    clear HB HCS
    go_wp2
    go_ret
    exact ⟨rfl, HK.out⟩
  · have c : w1.cell? ⟨sb, 13, none⟩ = some (.int .i64 2) := cell_of HB.out (by rfl)
    clear HB HCS
    go_wp2
    go_ret
    exact ⟨rfl, HK.out⟩
  · have c : w1.cell? ⟨sb, 14, none⟩ = some (.int .i64 2) := cell_of HB.out (by rfl)
    clear HB HCS
    go_wp2
    go_ret
    exact ⟨rfl, HK.out⟩
  · have c : w1.cell? ⟨sb, 15, none⟩ = some (.int .i64 1) := cell_of HB.out (by rfl)
    clear HB HCS
    go_wp2
    go_ret
    exact ⟨rfl, HK.out⟩
  · have c : w1.cell? ⟨sb, 16, none⟩ = some (.int .i64 3) := cell_of HB.out (by rfl)
    clear HB HCS
    go_wp2
    go_ret
    exact ⟨rfl, HK.out⟩
  · have c : w1.cell? ⟨sb, 17, none⟩ = some (.int .i64 2) := cell_of HB.out (by rfl)
    clear HB HCS
    go_wp2
    go_ret
    exact ⟨rfl, HK.out⟩
end Go.Proofs.Ytenoeondfdiklaa
