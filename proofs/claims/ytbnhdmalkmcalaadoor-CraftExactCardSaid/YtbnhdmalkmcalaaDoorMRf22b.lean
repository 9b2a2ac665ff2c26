/- What is proved: which instructions are good by the reference. Printed by gen_good.py. -/
import Derived.Test.YtbnhdmalkmcalaaDoorMCr1
namespace Go.Proofs.YtbnhdmalkmcalaaDoor
open Go.RowKit Go.Proofs.Heap Go.Proofs.Sch

theorem eq_beq {n m : Int} (h : n = m) : (n == m) = true := beq_iff_eq.2 h
theorem ne_beqF {n m : Int} (h : n ≠ m) : (n == m) = false := beq_eq_false_iff_ne.2 h

set_option maxRecDepth 20000 in
set_option maxHeartbeats 16000000 in
theorem r_good_push1 (a b c k : Int) (n : Nat) (w : World) : Calls Tryd.prog 44 #[.agg #[.int .i64 1, .int .i64 a, .int .i64 b, .int .i64 c, .int .i64 k], .int .i64 (n : Int)] w fun r w' => r = .returned (.bool (decide (a = 0 ∧ b = 0 ∧ c = 0))) ∧ Keep (fun _ => False) w w' := by
  obtain ⟨w1, hw1, hb1, hs1, hk1⟩ := box1 w #[.int .i64 1, .int .i64 a, .int .i64 b, .int .i64 c, .int .i64 k] 83
  have HK1 := hid hk1
  have c0 := cell_of hb1 (i := 0) (by rfl)
  have c1 := cell_of hb1 (i := 1) (by rfl)
  have c2 := cell_of hb1 (i := 2) (by rfl)
  have c3 := cell_of hb1 (i := 3) (by rfl)
  have c4 := cell_of hb1 (i := 4) (by rfl)
  obtain ⟨R, hR⟩ : ∃ R, decide (a = 0 ∧ b = 0 ∧ c = 0) = R := ⟨_, rfl⟩
  rw [hR]
  have HR := hid hR
  clear hb1 hk1 hs1 hR
  go_enter Tryd.func44, Tryd.ntmps44
  go_upto_region 1 with fail
  rw [← hw1]
  clear hw1
  generalize w.heap.size = xb at *
  go_cut [5] from 6 to 13 (fun v wx => v = .bool (decide (1 ≤ a ∧ a ≤ 24)) ∧ w1 = wx)
  case first =>
    by_cases ha1 : 1 ≤ a
    · have g0 : decide (1 ≤ a) = true := decide_eq_true ha1
      by_cases ha24 : a ≤ 24
      · have g1 : decide (a ≤ 24) = true := decide_eq_true ha24
        have G : Hid (decide (1 ≤ a ∧ a ≤ 24) = true) := hid (decide_eq_true ⟨ha1, ha24⟩)
        go_wp2
        go_meet
        case rel => exact ⟨by rw [G.out], rfl⟩
      · have g1 : decide (a ≤ 24) = false := decide_eq_false ha24
        have G : Hid (decide (1 ≤ a ∧ a ≤ 24) = false) := hid (decide_eq_false (by omega))
        go_wp2
        go_meet
        case rel => exact ⟨by rw [G.out], rfl⟩
    · have g0 : decide (1 ≤ a) = false := decide_eq_false ha1
      have G : Hid (decide (1 ≤ a ∧ a ≤ 24) = false) := hid (decide_eq_false (by omega))
      go_wp2
      go_meet
      case rel => exact ⟨by rw [G.out], rfl⟩
  case rest =>
    obtain ⟨rfl, rfl⟩ := hcut
    by_cases h0 : a = 0
    rotate_left
    · have q0 : (a == 0) = false := ne_beqF h0
      have G : Hid (R = false) := hid (by rw [← HR.out]; exact decide_eq_false (by omega))
      go_wp2
      go_ret
      exact ⟨by rw [G.out]; rfl, HK1.out⟩
    have q0 : (a == 0) = true := eq_beq h0
    by_cases h1 : b = 0
    rotate_left
    · have q1 : (b == 0) = false := ne_beqF h1
      have G : Hid (R = false) := hid (by rw [← HR.out]; exact decide_eq_false (by omega))
      go_wp2
      go_ret
      exact ⟨by rw [G.out]; rfl, HK1.out⟩
    have q1 : (b == 0) = true := eq_beq h1
    by_cases h2 : c = 0
    rotate_left
    · have q2 : (c == 0) = false := ne_beqF h2
      have G : Hid (R = false) := hid (by rw [← HR.out]; exact decide_eq_false (by omega))
      go_wp2
      go_ret
      exact ⟨by rw [G.out]; rfl, HK1.out⟩
    have q2 : (c == 0) = true := eq_beq h2
    have G : Hid (R = true) := hid (by rw [← HR.out]; exact decide_eq_true (by omega))
    go_wp2
    go_ret
    exact ⟨by rw [G.out]; rfl, HK1.out⟩

set_option maxRecDepth 20000 in
set_option maxHeartbeats 16000000 in
theorem r_good_elem2 (a b c k : Int) (n : Nat) (w : World) : Calls Tryd.prog 44 #[.agg #[.int .i64 2, .int .i64 a, .int .i64 b, .int .i64 c, .int .i64 k], .int .i64 (n : Int)] w fun r w' => r = .returned (.bool (decide (1 ≤ a ∧ a ≤ 24 ∧ 0 ≤ b ∧ b ≤ 7 ∧ 0 ≤ c ∧ c ≤ 7 ∧ k = 0))) ∧ Keep (fun _ => False) w w' := by
  obtain ⟨w1, hw1, hb1, hs1, hk1⟩ := box1 w #[.int .i64 2, .int .i64 a, .int .i64 b, .int .i64 c, .int .i64 k] 83
  have HK1 := hid hk1
  have c0 := cell_of hb1 (i := 0) (by rfl)
  have c1 := cell_of hb1 (i := 1) (by rfl)
  have c2 := cell_of hb1 (i := 2) (by rfl)
  have c3 := cell_of hb1 (i := 3) (by rfl)
  have c4 := cell_of hb1 (i := 4) (by rfl)
  obtain ⟨R, hR⟩ : ∃ R, decide (1 ≤ a ∧ a ≤ 24 ∧ 0 ≤ b ∧ b ≤ 7 ∧ 0 ≤ c ∧ c ≤ 7 ∧ k = 0) = R := ⟨_, rfl⟩
  rw [hR]
  have HR := hid hR
  clear hb1 hk1 hs1 hR
  go_enter Tryd.func44, Tryd.ntmps44
  go_upto_region 1 with fail
  rw [← hw1]
  clear hw1
  generalize w.heap.size = xb at *
  go_cut [5] from 6 to 13 (fun v wx => v = .bool (decide (1 ≤ a ∧ a ≤ 24)) ∧ w1 = wx)
  case first =>
    by_cases ha1 : 1 ≤ a
    · have g0 : decide (1 ≤ a) = true := decide_eq_true ha1
      by_cases ha24 : a ≤ 24
      · have g1 : decide (a ≤ 24) = true := decide_eq_true ha24
        have G : Hid (decide (1 ≤ a ∧ a ≤ 24) = true) := hid (decide_eq_true ⟨ha1, ha24⟩)
        go_wp2
        go_meet
        case rel => exact ⟨by rw [G.out], rfl⟩
      · have g1 : decide (a ≤ 24) = false := decide_eq_false ha24
        have G : Hid (decide (1 ≤ a ∧ a ≤ 24) = false) := hid (decide_eq_false (by omega))
        go_wp2
        go_meet
        case rel => exact ⟨by rw [G.out], rfl⟩
    · have g0 : decide (1 ≤ a) = false := decide_eq_false ha1
      have G : Hid (decide (1 ≤ a ∧ a ≤ 24) = false) := hid (decide_eq_false (by omega))
      go_wp2
      go_meet
      case rel => exact ⟨by rw [G.out], rfl⟩
  case rest =>
    obtain ⟨rfl, rfl⟩ := hcut
    by_cases h0 : 1 ≤ a ∧ a ≤ 24
    rotate_left
    · have q0 : decide (1 ≤ a ∧ a ≤ 24) = false := decide_eq_false h0
      rw [q0]
      have G : Hid (R = false) := hid (by rw [← HR.out]; exact decide_eq_false (by omega))
      go_wp2
      go_ret
      exact ⟨by rw [G.out]; rfl, HK1.out⟩
    have q0 : decide (1 ≤ a ∧ a ≤ 24) = true := decide_eq_true h0
    rw [q0]
    by_cases h1 : 0 ≤ b
    rotate_left
    · have q1 : decide (0 ≤ b) = false := decide_eq_false h1
      have G : Hid (R = false) := hid (by rw [← HR.out]; exact decide_eq_false (by omega))
      go_wp2
      go_ret
      exact ⟨by rw [G.out]; rfl, HK1.out⟩
    have q1 : decide (0 ≤ b) = true := decide_eq_true h1
    by_cases h2 : b ≤ 7
    rotate_left
    · have q2 : decide (b ≤ 7) = false := decide_eq_false h2
      have G : Hid (R = false) := hid (by rw [← HR.out]; exact decide_eq_false (by omega))
      go_wp2
      go_ret
      exact ⟨by rw [G.out]; rfl, HK1.out⟩
    have q2 : decide (b ≤ 7) = true := decide_eq_true h2
    by_cases h3 : 0 ≤ c
    rotate_left
    · have q3 : decide (0 ≤ c) = false := decide_eq_false h3
      have G : Hid (R = false) := hid (by rw [← HR.out]; exact decide_eq_false (by omega))
      go_wp2
      go_ret
      exact ⟨by rw [G.out]; rfl, HK1.out⟩
    have q3 : decide (0 ≤ c) = true := decide_eq_true h3
    by_cases h4 : c ≤ 7
    rotate_left
    · have q4 : decide (c ≤ 7) = false := decide_eq_false h4
      have G : Hid (R = false) := hid (by rw [← HR.out]; exact decide_eq_false (by omega))
      go_wp2
      go_ret
      exact ⟨by rw [G.out]; rfl, HK1.out⟩
    have q4 : decide (c ≤ 7) = true := decide_eq_true h4
    by_cases h5 : k = 0
    rotate_left
    · have q5 : (k == 0) = false := ne_beqF h5
      have G : Hid (R = false) := hid (by rw [← HR.out]; exact decide_eq_false (by omega))
      go_wp2
      go_ret
      exact ⟨by rw [G.out]; rfl, HK1.out⟩
    have q5 : (k == 0) = true := eq_beq h5
    have G : Hid (R = true) := hid (by rw [← HR.out]; exact decide_eq_true (by omega))
    go_wp2
    go_ret
    exact ⟨by rw [G.out]; rfl, HK1.out⟩

set_option maxRecDepth 20000 in
set_option maxHeartbeats 16000000 in
theorem r_good_elem3 (a b c k : Int) (n : Nat) (w : World) : Calls Tryd.prog 44 #[.agg #[.int .i64 3, .int .i64 a, .int .i64 b, .int .i64 c, .int .i64 k], .int .i64 (n : Int)] w fun r w' => r = .returned (.bool (decide (1 ≤ a ∧ a ≤ 24 ∧ 0 ≤ b ∧ b ≤ 7 ∧ 0 ≤ c ∧ c ≤ 7 ∧ k = 0))) ∧ Keep (fun _ => False) w w' := by
  obtain ⟨w1, hw1, hb1, hs1, hk1⟩ := box1 w #[.int .i64 3, .int .i64 a, .int .i64 b, .int .i64 c, .int .i64 k] 83
  have HK1 := hid hk1
  have c0 := cell_of hb1 (i := 0) (by rfl)
  have c1 := cell_of hb1 (i := 1) (by rfl)
  have c2 := cell_of hb1 (i := 2) (by rfl)
  have c3 := cell_of hb1 (i := 3) (by rfl)
  have c4 := cell_of hb1 (i := 4) (by rfl)
  obtain ⟨R, hR⟩ : ∃ R, decide (1 ≤ a ∧ a ≤ 24 ∧ 0 ≤ b ∧ b ≤ 7 ∧ 0 ≤ c ∧ c ≤ 7 ∧ k = 0) = R := ⟨_, rfl⟩
  rw [hR]
  have HR := hid hR
  clear hb1 hk1 hs1 hR
  go_enter Tryd.func44, Tryd.ntmps44
  go_upto_region 1 with fail
  rw [← hw1]
  clear hw1
  generalize w.heap.size = xb at *
  go_cut [5] from 6 to 13 (fun v wx => v = .bool (decide (1 ≤ a ∧ a ≤ 24)) ∧ w1 = wx)
  case first =>
    by_cases ha1 : 1 ≤ a
    · have g0 : decide (1 ≤ a) = true := decide_eq_true ha1
      by_cases ha24 : a ≤ 24
      · have g1 : decide (a ≤ 24) = true := decide_eq_true ha24
        have G : Hid (decide (1 ≤ a ∧ a ≤ 24) = true) := hid (decide_eq_true ⟨ha1, ha24⟩)
        go_wp2
        go_meet
        case rel => exact ⟨by rw [G.out], rfl⟩
      · have g1 : decide (a ≤ 24) = false := decide_eq_false ha24
        have G : Hid (decide (1 ≤ a ∧ a ≤ 24) = false) := hid (decide_eq_false (by omega))
        go_wp2
        go_meet
        case rel => exact ⟨by rw [G.out], rfl⟩
    · have g0 : decide (1 ≤ a) = false := decide_eq_false ha1
      have G : Hid (decide (1 ≤ a ∧ a ≤ 24) = false) := hid (decide_eq_false (by omega))
      go_wp2
      go_meet
      case rel => exact ⟨by rw [G.out], rfl⟩
  case rest =>
    obtain ⟨rfl, rfl⟩ := hcut
    by_cases h0 : 1 ≤ a ∧ a ≤ 24
    rotate_left
    · have q0 : decide (1 ≤ a ∧ a ≤ 24) = false := decide_eq_false h0
      rw [q0]
      have G : Hid (R = false) := hid (by rw [← HR.out]; exact decide_eq_false (by omega))
      go_wp2
      go_ret
      exact ⟨by rw [G.out]; rfl, HK1.out⟩
    have q0 : decide (1 ≤ a ∧ a ≤ 24) = true := decide_eq_true h0
    rw [q0]
    by_cases h1 : 0 ≤ b
    rotate_left
    · have q1 : decide (0 ≤ b) = false := decide_eq_false h1
      have G : Hid (R = false) := hid (by rw [← HR.out]; exact decide_eq_false (by omega))
      go_wp2
      go_ret
      exact ⟨by rw [G.out]; rfl, HK1.out⟩
    have q1 : decide (0 ≤ b) = true := decide_eq_true h1
    by_cases h2 : b ≤ 7
    rotate_left
    · have q2 : decide (b ≤ 7) = false := decide_eq_false h2
      have G : Hid (R = false) := hid (by rw [← HR.out]; exact decide_eq_false (by omega))
      go_wp2
      go_ret
      exact ⟨by rw [G.out]; rfl, HK1.out⟩
    have q2 : decide (b ≤ 7) = true := decide_eq_true h2
    by_cases h3 : 0 ≤ c
    rotate_left
    · have q3 : decide (0 ≤ c) = false := decide_eq_false h3
      have G : Hid (R = false) := hid (by rw [← HR.out]; exact decide_eq_false (by omega))
      go_wp2
      go_ret
      exact ⟨by rw [G.out]; rfl, HK1.out⟩
    have q3 : decide (0 ≤ c) = true := decide_eq_true h3
    by_cases h4 : c ≤ 7
    rotate_left
    · have q4 : decide (c ≤ 7) = false := decide_eq_false h4
      have G : Hid (R = false) := hid (by rw [← HR.out]; exact decide_eq_false (by omega))
      go_wp2
      go_ret
      exact ⟨by rw [G.out]; rfl, HK1.out⟩
    have q4 : decide (c ≤ 7) = true := decide_eq_true h4
    by_cases h5 : k = 0
    rotate_left
    · have q5 : (k == 0) = false := ne_beqF h5
      have G : Hid (R = false) := hid (by rw [← HR.out]; exact decide_eq_false (by omega))
      go_wp2
      go_ret
      exact ⟨by rw [G.out]; rfl, HK1.out⟩
    have q5 : (k == 0) = true := eq_beq h5
    have G : Hid (R = true) := hid (by rw [← HR.out]; exact decide_eq_true (by omega))
    go_wp2
    go_ret
    exact ⟨by rw [G.out]; rfl, HK1.out⟩

set_option maxRecDepth 20000 in
set_option maxHeartbeats 16000000 in
theorem r_good_way16 (a b c k : Int) (n : Nat) (w : World) : Calls Tryd.prog 44 #[.agg #[.int .i64 16, .int .i64 a, .int .i64 b, .int .i64 c, .int .i64 k], .int .i64 (n : Int)] w fun r w' => r = .returned (.bool (decide (a = 0 ∧ b = 0 ∧ c = 0 ∧ 0 ≤ k ∧ k ≤ n))) ∧ Keep (fun _ => False) w w' := by
  obtain ⟨w1, hw1, hb1, hs1, hk1⟩ := box1 w #[.int .i64 16, .int .i64 a, .int .i64 b, .int .i64 c, .int .i64 k] 83
  have HK1 := hid hk1
  have c0 := cell_of hb1 (i := 0) (by rfl)
  have c1 := cell_of hb1 (i := 1) (by rfl)
  have c2 := cell_of hb1 (i := 2) (by rfl)
  have c3 := cell_of hb1 (i := 3) (by rfl)
  have c4 := cell_of hb1 (i := 4) (by rfl)
  obtain ⟨R, hR⟩ : ∃ R, decide (a = 0 ∧ b = 0 ∧ c = 0 ∧ 0 ≤ k ∧ k ≤ n) = R := ⟨_, rfl⟩
  rw [hR]
  have HR := hid hR
  clear hb1 hk1 hs1 hR
  go_enter Tryd.func44, Tryd.ntmps44
  go_upto_region 1 with fail
  rw [← hw1]
  clear hw1
  generalize w.heap.size = xb at *
  go_cut [5] from 6 to 13 (fun v wx => v = .bool (decide (1 ≤ a ∧ a ≤ 24)) ∧ w1 = wx)
  case first =>
    by_cases ha1 : 1 ≤ a
    · have g0 : decide (1 ≤ a) = true := decide_eq_true ha1
      by_cases ha24 : a ≤ 24
      · have g1 : decide (a ≤ 24) = true := decide_eq_true ha24
        have G : Hid (decide (1 ≤ a ∧ a ≤ 24) = true) := hid (decide_eq_true ⟨ha1, ha24⟩)
        go_wp2
        go_meet
        case rel => exact ⟨by rw [G.out], rfl⟩
      · have g1 : decide (a ≤ 24) = false := decide_eq_false ha24
        have G : Hid (decide (1 ≤ a ∧ a ≤ 24) = false) := hid (decide_eq_false (by omega))
        go_wp2
        go_meet
        case rel => exact ⟨by rw [G.out], rfl⟩
    · have g0 : decide (1 ≤ a) = false := decide_eq_false ha1
      have G : Hid (decide (1 ≤ a ∧ a ≤ 24) = false) := hid (decide_eq_false (by omega))
      go_wp2
      go_meet
      case rel => exact ⟨by rw [G.out], rfl⟩
  case rest =>
    obtain ⟨rfl, rfl⟩ := hcut
    by_cases h0 : a = 0
    rotate_left
    · have q0 : (a == 0) = false := ne_beqF h0
      have G : Hid (R = false) := hid (by rw [← HR.out]; exact decide_eq_false (by omega))
      go_wp2
      go_ret
      exact ⟨by rw [G.out]; rfl, HK1.out⟩
    have q0 : (a == 0) = true := eq_beq h0
    by_cases h1 : b = 0
    rotate_left
    · have q1 : (b == 0) = false := ne_beqF h1
      have G : Hid (R = false) := hid (by rw [← HR.out]; exact decide_eq_false (by omega))
      go_wp2
      go_ret
      exact ⟨by rw [G.out]; rfl, HK1.out⟩
    have q1 : (b == 0) = true := eq_beq h1
    by_cases h2 : c = 0
    rotate_left
    · have q2 : (c == 0) = false := ne_beqF h2
      have G : Hid (R = false) := hid (by rw [← HR.out]; exact decide_eq_false (by omega))
      go_wp2
      go_ret
      exact ⟨by rw [G.out]; rfl, HK1.out⟩
    have q2 : (c == 0) = true := eq_beq h2
    by_cases h3 : 0 ≤ k
    rotate_left
    · have q3 : decide (0 ≤ k) = false := decide_eq_false h3
      have G : Hid (R = false) := hid (by rw [← HR.out]; exact decide_eq_false (by omega))
      go_wp2
      go_ret
      exact ⟨by rw [G.out]; rfl, HK1.out⟩
    have q3 : decide (0 ≤ k) = true := decide_eq_true h3
    by_cases h4 : k ≤ (n : Int)
    rotate_left
    · have q4 : decide (k ≤ (n : Int)) = false := decide_eq_false h4
      have G : Hid (R = false) := hid (by rw [← HR.out]; exact decide_eq_false (by omega))
      go_wp2
      go_ret
      exact ⟨by rw [G.out]; rfl, HK1.out⟩
    have q4 : decide (k ≤ (n : Int)) = true := decide_eq_true h4
    have G : Hid (R = true) := hid (by rw [← HR.out]; exact decide_eq_true (by omega))
    go_wp2
    go_ret
    exact ⟨by rw [G.out]; rfl, HK1.out⟩

set_option maxRecDepth 20000 in
set_option maxHeartbeats 16000000 in
theorem r_good_way17 (a b c k : Int) (n : Nat) (w : World) : Calls Tryd.prog 44 #[.agg #[.int .i64 17, .int .i64 a, .int .i64 b, .int .i64 c, .int .i64 k], .int .i64 (n : Int)] w fun r w' => r = .returned (.bool (decide (a = 0 ∧ b = 0 ∧ c = 0 ∧ 0 ≤ k ∧ k ≤ n))) ∧ Keep (fun _ => False) w w' := by
  obtain ⟨w1, hw1, hb1, hs1, hk1⟩ := box1 w #[.int .i64 17, .int .i64 a, .int .i64 b, .int .i64 c, .int .i64 k] 83
  have HK1 := hid hk1
  have c0 := cell_of hb1 (i := 0) (by rfl)
  have c1 := cell_of hb1 (i := 1) (by rfl)
  have c2 := cell_of hb1 (i := 2) (by rfl)
  have c3 := cell_of hb1 (i := 3) (by rfl)
  have c4 := cell_of hb1 (i := 4) (by rfl)
  obtain ⟨R, hR⟩ : ∃ R, decide (a = 0 ∧ b = 0 ∧ c = 0 ∧ 0 ≤ k ∧ k ≤ n) = R := ⟨_, rfl⟩
  rw [hR]
  have HR := hid hR
  clear hb1 hk1 hs1 hR
  go_enter Tryd.func44, Tryd.ntmps44
  go_upto_region 1 with fail
  rw [← hw1]
  clear hw1
  generalize w.heap.size = xb at *
  go_cut [5] from 6 to 13 (fun v wx => v = .bool (decide (1 ≤ a ∧ a ≤ 24)) ∧ w1 = wx)
  case first =>
    by_cases ha1 : 1 ≤ a
    · have g0 : decide (1 ≤ a) = true := decide_eq_true ha1
      by_cases ha24 : a ≤ 24
      · have g1 : decide (a ≤ 24) = true := decide_eq_true ha24
        have G : Hid (decide (1 ≤ a ∧ a ≤ 24) = true) := hid (decide_eq_true ⟨ha1, ha24⟩)
        go_wp2
        go_meet
        case rel => exact ⟨by rw [G.out], rfl⟩
      · have g1 : decide (a ≤ 24) = false := decide_eq_false ha24
        have G : Hid (decide (1 ≤ a ∧ a ≤ 24) = false) := hid (decide_eq_false (by omega))
        go_wp2
        go_meet
        case rel => exact ⟨by rw [G.out], rfl⟩
    · have g0 : decide (1 ≤ a) = false := decide_eq_false ha1
      have G : Hid (decide (1 ≤ a ∧ a ≤ 24) = false) := hid (decide_eq_false (by omega))
      go_wp2
      go_meet
      case rel => exact ⟨by rw [G.out], rfl⟩
  case rest =>
    obtain ⟨rfl, rfl⟩ := hcut
    by_cases h0 : a = 0
    rotate_left
    · have q0 : (a == 0) = false := ne_beqF h0
      have G : Hid (R = false) := hid (by rw [← HR.out]; exact decide_eq_false (by omega))
      go_wp2
      go_ret
      exact ⟨by rw [G.out]; rfl, HK1.out⟩
    have q0 : (a == 0) = true := eq_beq h0
    by_cases h1 : b = 0
    rotate_left
    · have q1 : (b == 0) = false := ne_beqF h1
      have G : Hid (R = false) := hid (by rw [← HR.out]; exact decide_eq_false (by omega))
      go_wp2
      go_ret
      exact ⟨by rw [G.out]; rfl, HK1.out⟩
    have q1 : (b == 0) = true := eq_beq h1
    by_cases h2 : c = 0
    rotate_left
    · have q2 : (c == 0) = false := ne_beqF h2
      have G : Hid (R = false) := hid (by rw [← HR.out]; exact decide_eq_false (by omega))
      go_wp2
      go_ret
      exact ⟨by rw [G.out]; rfl, HK1.out⟩
    have q2 : (c == 0) = true := eq_beq h2
    by_cases h3 : 0 ≤ k
    rotate_left
    · have q3 : decide (0 ≤ k) = false := decide_eq_false h3
      have G : Hid (R = false) := hid (by rw [← HR.out]; exact decide_eq_false (by omega))
      go_wp2
      go_ret
      exact ⟨by rw [G.out]; rfl, HK1.out⟩
    have q3 : decide (0 ≤ k) = true := decide_eq_true h3
    by_cases h4 : k ≤ (n : Int)
    rotate_left
    · have q4 : decide (k ≤ (n : Int)) = false := decide_eq_false h4
      have G : Hid (R = false) := hid (by rw [← HR.out]; exact decide_eq_false (by omega))
      go_wp2
      go_ret
      exact ⟨by rw [G.out]; rfl, HK1.out⟩
    have q4 : decide (k ≤ (n : Int)) = true := decide_eq_true h4
    have G : Hid (R = true) := hid (by rw [← HR.out]; exact decide_eq_true (by omega))
    go_wp2
    go_ret
    exact ⟨by rw [G.out]; rfl, HK1.out⟩

set_option maxRecDepth 20000 in
set_option maxHeartbeats 16000000 in
theorem r_good_made20 (a b c k : Int) (n : Nat) (w : World) : Calls Tryd.prog 44 #[.agg #[.int .i64 20, .int .i64 a, .int .i64 b, .int .i64 c, .int .i64 k], .int .i64 (n : Int)] w fun r w' => r = .returned (.bool (decide (1 ≤ a ∧ a ≤ 24 ∧ b = 0 ∧ c = 0 ∧ k = 0))) ∧ Keep (fun _ => False) w w' := by
  obtain ⟨w1, hw1, hb1, hs1, hk1⟩ := box1 w #[.int .i64 20, .int .i64 a, .int .i64 b, .int .i64 c, .int .i64 k] 83
  have HK1 := hid hk1
  have c0 := cell_of hb1 (i := 0) (by rfl)
  have c1 := cell_of hb1 (i := 1) (by rfl)
  have c2 := cell_of hb1 (i := 2) (by rfl)
  have c3 := cell_of hb1 (i := 3) (by rfl)
  have c4 := cell_of hb1 (i := 4) (by rfl)
  obtain ⟨R, hR⟩ : ∃ R, decide (1 ≤ a ∧ a ≤ 24 ∧ b = 0 ∧ c = 0 ∧ k = 0) = R := ⟨_, rfl⟩
  rw [hR]
  have HR := hid hR
  clear hb1 hk1 hs1 hR
  go_enter Tryd.func44, Tryd.ntmps44
  go_upto_region 1 with fail
  rw [← hw1]
  clear hw1
  generalize w.heap.size = xb at *
  go_cut [5] from 6 to 13 (fun v wx => v = .bool (decide (1 ≤ a ∧ a ≤ 24)) ∧ w1 = wx)
  case first =>
    by_cases ha1 : 1 ≤ a
    · have g0 : decide (1 ≤ a) = true := decide_eq_true ha1
      by_cases ha24 : a ≤ 24
      · have g1 : decide (a ≤ 24) = true := decide_eq_true ha24
        have G : Hid (decide (1 ≤ a ∧ a ≤ 24) = true) := hid (decide_eq_true ⟨ha1, ha24⟩)
        go_wp2
        go_meet
        case rel => exact ⟨by rw [G.out], rfl⟩
      · have g1 : decide (a ≤ 24) = false := decide_eq_false ha24
        have G : Hid (decide (1 ≤ a ∧ a ≤ 24) = false) := hid (decide_eq_false (by omega))
        go_wp2
        go_meet
        case rel => exact ⟨by rw [G.out], rfl⟩
    · have g0 : decide (1 ≤ a) = false := decide_eq_false ha1
      have G : Hid (decide (1 ≤ a ∧ a ≤ 24) = false) := hid (decide_eq_false (by omega))
      go_wp2
      go_meet
      case rel => exact ⟨by rw [G.out], rfl⟩
  case rest =>
    obtain ⟨rfl, rfl⟩ := hcut
    by_cases h0 : 1 ≤ a ∧ a ≤ 24
    rotate_left
    · have q0 : decide (1 ≤ a ∧ a ≤ 24) = false := decide_eq_false h0
      rw [q0]
      have G : Hid (R = false) := hid (by rw [← HR.out]; exact decide_eq_false (by omega))
      go_wp2
      go_ret
      exact ⟨by rw [G.out]; rfl, HK1.out⟩
    have q0 : decide (1 ≤ a ∧ a ≤ 24) = true := decide_eq_true h0
    rw [q0]
    by_cases h1 : b = 0
    rotate_left
    · have q1 : (b == 0) = false := ne_beqF h1
      have G : Hid (R = false) := hid (by rw [← HR.out]; exact decide_eq_false (by omega))
      go_wp2
      go_ret
      exact ⟨by rw [G.out]; rfl, HK1.out⟩
    have q1 : (b == 0) = true := eq_beq h1
    by_cases h2 : c = 0
    rotate_left
    · have q2 : (c == 0) = false := ne_beqF h2
      have G : Hid (R = false) := hid (by rw [← HR.out]; exact decide_eq_false (by omega))
      go_wp2
      go_ret
      exact ⟨by rw [G.out]; rfl, HK1.out⟩
    have q2 : (c == 0) = true := eq_beq h2
    by_cases h3 : k = 0
    rotate_left
    · have q3 : (k == 0) = false := ne_beqF h3
      have G : Hid (R = false) := hid (by rw [← HR.out]; exact decide_eq_false (by omega))
      go_wp2
      go_ret
      exact ⟨by rw [G.out]; rfl, HK1.out⟩
    have q3 : (k == 0) = true := eq_beq h3
    have G : Hid (R = true) := hid (by rw [← HR.out]; exact decide_eq_true (by omega))
    go_wp2
    go_ret
    exact ⟨by rw [G.out]; rfl, HK1.out⟩

set_option maxRecDepth 20000 in
set_option maxHeartbeats 16000000 in
theorem r_good_made21 (a b c k : Int) (n : Nat) (w : World) : Calls Tryd.prog 44 #[.agg #[.int .i64 21, .int .i64 a, .int .i64 b, .int .i64 c, .int .i64 k], .int .i64 (n : Int)] w fun r w' => r = .returned (.bool (decide (1 ≤ a ∧ a ≤ 24 ∧ b = 0 ∧ c = 0 ∧ k = 0))) ∧ Keep (fun _ => False) w w' := by
  obtain ⟨w1, hw1, hb1, hs1, hk1⟩ := box1 w #[.int .i64 21, .int .i64 a, .int .i64 b, .int .i64 c, .int .i64 k] 83
  have HK1 := hid hk1
  have c0 := cell_of hb1 (i := 0) (by rfl)
  have c1 := cell_of hb1 (i := 1) (by rfl)
  have c2 := cell_of hb1 (i := 2) (by rfl)
  have c3 := cell_of hb1 (i := 3) (by rfl)
  have c4 := cell_of hb1 (i := 4) (by rfl)
  obtain ⟨R, hR⟩ : ∃ R, decide (1 ≤ a ∧ a ≤ 24 ∧ b = 0 ∧ c = 0 ∧ k = 0) = R := ⟨_, rfl⟩
  rw [hR]
  have HR := hid hR
  clear hb1 hk1 hs1 hR
  go_enter Tryd.func44, Tryd.ntmps44
  go_upto_region 1 with fail
  rw [← hw1]
  clear hw1
  generalize w.heap.size = xb at *
  go_cut [5] from 6 to 13 (fun v wx => v = .bool (decide (1 ≤ a ∧ a ≤ 24)) ∧ w1 = wx)
  case first =>
    by_cases ha1 : 1 ≤ a
    · have g0 : decide (1 ≤ a) = true := decide_eq_true ha1
      by_cases ha24 : a ≤ 24
      · have g1 : decide (a ≤ 24) = true := decide_eq_true ha24
        have G : Hid (decide (1 ≤ a ∧ a ≤ 24) = true) := hid (decide_eq_true ⟨ha1, ha24⟩)
        go_wp2
        go_meet
        case rel => exact ⟨by rw [G.out], rfl⟩
      · have g1 : decide (a ≤ 24) = false := decide_eq_false ha24
        have G : Hid (decide (1 ≤ a ∧ a ≤ 24) = false) := hid (decide_eq_false (by omega))
        go_wp2
        go_meet
        case rel => exact ⟨by rw [G.out], rfl⟩
    · have g0 : decide (1 ≤ a) = false := decide_eq_false ha1
      have G : Hid (decide (1 ≤ a ∧ a ≤ 24) = false) := hid (decide_eq_false (by omega))
      go_wp2
      go_meet
      case rel => exact ⟨by rw [G.out], rfl⟩
  case rest =>
    obtain ⟨rfl, rfl⟩ := hcut
    by_cases h0 : 1 ≤ a ∧ a ≤ 24
    rotate_left
    · have q0 : decide (1 ≤ a ∧ a ≤ 24) = false := decide_eq_false h0
      rw [q0]
      have G : Hid (R = false) := hid (by rw [← HR.out]; exact decide_eq_false (by omega))
      go_wp2
      go_ret
      exact ⟨by rw [G.out]; rfl, HK1.out⟩
    have q0 : decide (1 ≤ a ∧ a ≤ 24) = true := decide_eq_true h0
    rw [q0]
    by_cases h1 : b = 0
    rotate_left
    · have q1 : (b == 0) = false := ne_beqF h1
      have G : Hid (R = false) := hid (by rw [← HR.out]; exact decide_eq_false (by omega))
      go_wp2
      go_ret
      exact ⟨by rw [G.out]; rfl, HK1.out⟩
    have q1 : (b == 0) = true := eq_beq h1
    by_cases h2 : c = 0
    rotate_left
    · have q2 : (c == 0) = false := ne_beqF h2
      have G : Hid (R = false) := hid (by rw [← HR.out]; exact decide_eq_false (by omega))
      go_wp2
      go_ret
      exact ⟨by rw [G.out]; rfl, HK1.out⟩
    have q2 : (c == 0) = true := eq_beq h2
    by_cases h3 : k = 0
    rotate_left
    · have q3 : (k == 0) = false := ne_beqF h3
      have G : Hid (R = false) := hid (by rw [← HR.out]; exact decide_eq_false (by omega))
      go_wp2
      go_ret
      exact ⟨by rw [G.out]; rfl, HK1.out⟩
    have q3 : (k == 0) = true := eq_beq h3
    have G : Hid (R = true) := hid (by rw [← HR.out]; exact decide_eq_true (by omega))
    go_wp2
    go_ret
    exact ⟨by rw [G.out]; rfl, HK1.out⟩

set_option maxRecDepth 20000 in
set_option maxHeartbeats 16000000 in
theorem r_good_made22 (a b c k : Int) (n : Nat) (w : World) : Calls Tryd.prog 44 #[.agg #[.int .i64 22, .int .i64 a, .int .i64 b, .int .i64 c, .int .i64 k], .int .i64 (n : Int)] w fun r w' => r = .returned (.bool (decide (1 ≤ a ∧ a ≤ 24 ∧ b = 0 ∧ c = 0 ∧ k = 0))) ∧ Keep (fun _ => False) w w' := by
  obtain ⟨w1, hw1, hb1, hs1, hk1⟩ := box1 w #[.int .i64 22, .int .i64 a, .int .i64 b, .int .i64 c, .int .i64 k] 83
  have HK1 := hid hk1
  have c0 := cell_of hb1 (i := 0) (by rfl)
  have c1 := cell_of hb1 (i := 1) (by rfl)
  have c2 := cell_of hb1 (i := 2) (by rfl)
  have c3 := cell_of hb1 (i := 3) (by rfl)
  have c4 := cell_of hb1 (i := 4) (by rfl)
  obtain ⟨R, hR⟩ : ∃ R, decide (1 ≤ a ∧ a ≤ 24 ∧ b = 0 ∧ c = 0 ∧ k = 0) = R := ⟨_, rfl⟩
  rw [hR]
  have HR := hid hR
  clear hb1 hk1 hs1 hR
  go_enter Tryd.func44, Tryd.ntmps44
  go_upto_region 1 with fail
  rw [← hw1]
  clear hw1
  generalize w.heap.size = xb at *
  go_cut [5] from 6 to 13 (fun v wx => v = .bool (decide (1 ≤ a ∧ a ≤ 24)) ∧ w1 = wx)
  case first =>
    by_cases ha1 : 1 ≤ a
    · have g0 : decide (1 ≤ a) = true := decide_eq_true ha1
      by_cases ha24 : a ≤ 24
      · have g1 : decide (a ≤ 24) = true := decide_eq_true ha24
        have G : Hid (decide (1 ≤ a ∧ a ≤ 24) = true) := hid (decide_eq_true ⟨ha1, ha24⟩)
        go_wp2
        go_meet
        case rel => exact ⟨by rw [G.out], rfl⟩
      · have g1 : decide (a ≤ 24) = false := decide_eq_false ha24
        have G : Hid (decide (1 ≤ a ∧ a ≤ 24) = false) := hid (decide_eq_false (by omega))
        go_wp2
        go_meet
        case rel => exact ⟨by rw [G.out], rfl⟩
    · have g0 : decide (1 ≤ a) = false := decide_eq_false ha1
      have G : Hid (decide (1 ≤ a ∧ a ≤ 24) = false) := hid (decide_eq_false (by omega))
      go_wp2
      go_meet
      case rel => exact ⟨by rw [G.out], rfl⟩
  case rest =>
    obtain ⟨rfl, rfl⟩ := hcut
    by_cases h0 : 1 ≤ a ∧ a ≤ 24
    rotate_left
    · have q0 : decide (1 ≤ a ∧ a ≤ 24) = false := decide_eq_false h0
      rw [q0]
      have G : Hid (R = false) := hid (by rw [← HR.out]; exact decide_eq_false (by omega))
      go_wp2
      go_ret
      exact ⟨by rw [G.out]; rfl, HK1.out⟩
    have q0 : decide (1 ≤ a ∧ a ≤ 24) = true := decide_eq_true h0
    rw [q0]
    by_cases h1 : b = 0
    rotate_left
    · have q1 : (b == 0) = false := ne_beqF h1
      have G : Hid (R = false) := hid (by rw [← HR.out]; exact decide_eq_false (by omega))
      go_wp2
      go_ret
      exact ⟨by rw [G.out]; rfl, HK1.out⟩
    have q1 : (b == 0) = true := eq_beq h1
    by_cases h2 : c = 0
    rotate_left
    · have q2 : (c == 0) = false := ne_beqF h2
      have G : Hid (R = false) := hid (by rw [← HR.out]; exact decide_eq_false (by omega))
      go_wp2
      go_ret
      exact ⟨by rw [G.out]; rfl, HK1.out⟩
    have q2 : (c == 0) = true := eq_beq h2
    by_cases h3 : k = 0
    rotate_left
    · have q3 : (k == 0) = false := ne_beqF h3
      have G : Hid (R = false) := hid (by rw [← HR.out]; exact decide_eq_false (by omega))
      go_wp2
      go_ret
      exact ⟨by rw [G.out]; rfl, HK1.out⟩
    have q3 : (k == 0) = true := eq_beq h3
    have G : Hid (R = true) := hid (by rw [← HR.out]; exact decide_eq_true (by omega))
    go_wp2
    go_ret
    exact ⟨by rw [G.out]; rfl, HK1.out⟩

set_option maxRecDepth 20000 in
set_option maxHeartbeats 16000000 in
theorem r_good_rest (e a b c k : Int) (n : Nat) (w : World) (he : ¬ (e = 1 ∨ e = 2 ∨ e = 3 ∨ e = 16 ∨ e = 17 ∨ e = 20 ∨ e = 21 ∨ e = 22)) : Calls Tryd.prog 44 #[.agg #[.int .i64 e, .int .i64 a, .int .i64 b, .int .i64 c, .int .i64 k], .int .i64 (n : Int)] w fun r w' => r = .returned (.bool (decide (4 ≤ e ∧ e ≤ 23 ∧ a = 0 ∧ b = 0 ∧ c = 0 ∧ k = 0))) ∧ Keep (fun _ => False) w w' := by
  obtain ⟨w1, hw1, hb1, hs1, hk1⟩ := box1 w #[.int .i64 e, .int .i64 a, .int .i64 b, .int .i64 c, .int .i64 k] 83
  have HK1 := hid hk1
  have c0 := cell_of hb1 (i := 0) (by rfl)
  have c1 := cell_of hb1 (i := 1) (by rfl)
  have c2 := cell_of hb1 (i := 2) (by rfl)
  have c3 := cell_of hb1 (i := 3) (by rfl)
  have c4 := cell_of hb1 (i := 4) (by rfl)
  obtain ⟨R, hR⟩ : ∃ R, decide (4 ≤ e ∧ e ≤ 23 ∧ a = 0 ∧ b = 0 ∧ c = 0 ∧ k = 0) = R := ⟨_, rfl⟩
  rw [hR]
  have HR := hid hR
  clear hb1 hk1 hs1 hR
  go_enter Tryd.func44, Tryd.ntmps44
  go_upto_region 1 with fail
  rw [← hw1]
  clear hw1
  generalize w.heap.size = xb at *
  go_cut [5] from 6 to 13 (fun v wx => v = .bool (decide (1 ≤ a ∧ a ≤ 24)) ∧ w1 = wx)
  case first =>
    by_cases ha1 : 1 ≤ a
    · have g0 : decide (1 ≤ a) = true := decide_eq_true ha1
      by_cases ha24 : a ≤ 24
      · have g1 : decide (a ≤ 24) = true := decide_eq_true ha24
        have G : Hid (decide (1 ≤ a ∧ a ≤ 24) = true) := hid (decide_eq_true ⟨ha1, ha24⟩)
        go_wp2
        go_meet
        case rel => exact ⟨by rw [G.out], rfl⟩
      · have g1 : decide (a ≤ 24) = false := decide_eq_false ha24
        have G : Hid (decide (1 ≤ a ∧ a ≤ 24) = false) := hid (decide_eq_false (by omega))
        go_wp2
        go_meet
        case rel => exact ⟨by rw [G.out], rfl⟩
    · have g0 : decide (1 ≤ a) = false := decide_eq_false ha1
      have G : Hid (decide (1 ≤ a ∧ a ≤ 24) = false) := hid (decide_eq_false (by omega))
      go_wp2
      go_meet
      case rel => exact ⟨by rw [G.out], rfl⟩
  case rest =>
    obtain ⟨rfl, rfl⟩ := hcut
    have p1 : (e == 1) = false := ne_beqF (by omega)
    have p2 : (e == 2) = false := ne_beqF (by omega)
    have p3 : (e == 3) = false := ne_beqF (by omega)
    have p16 : (e == 16) = false := ne_beqF (by omega)
    have p17 : (e == 17) = false := ne_beqF (by omega)
    have p20 : (e == 20) = false := ne_beqF (by omega)
    have p21 : (e == 21) = false := ne_beqF (by omega)
    have p22 : (e == 22) = false := ne_beqF (by omega)
    by_cases h0 : 4 ≤ e
    rotate_left
    · have q0 : decide (4 ≤ e) = false := decide_eq_false h0
      have G : Hid (R = false) := hid (by rw [← HR.out]; exact decide_eq_false (by omega))
      go_wp2
      go_ret
      exact ⟨by rw [G.out]; rfl, HK1.out⟩
    have q0 : decide (4 ≤ e) = true := decide_eq_true h0
    by_cases h1 : e ≤ 23
    rotate_left
    · have q1 : decide (e ≤ 23) = false := decide_eq_false h1
      have G : Hid (R = false) := hid (by rw [← HR.out]; exact decide_eq_false (by omega))
      go_wp2
      go_ret
      exact ⟨by rw [G.out]; rfl, HK1.out⟩
    have q1 : decide (e ≤ 23) = true := decide_eq_true h1
    by_cases h2 : a = 0
    rotate_left
    · have q2 : (a == 0) = false := ne_beqF h2
      have G : Hid (R = false) := hid (by rw [← HR.out]; exact decide_eq_false (by omega))
      go_wp2
      go_ret
      exact ⟨by rw [G.out]; rfl, HK1.out⟩
    have q2 : (a == 0) = true := eq_beq h2
    by_cases h3 : b = 0
    rotate_left
    · have q3 : (b == 0) = false := ne_beqF h3
      have G : Hid (R = false) := hid (by rw [← HR.out]; exact decide_eq_false (by omega))
      go_wp2
      go_ret
      exact ⟨by rw [G.out]; rfl, HK1.out⟩
    have q3 : (b == 0) = true := eq_beq h3
    by_cases h4 : c = 0
    rotate_left
    · have q4 : (c == 0) = false := ne_beqF h4
      have G : Hid (R = false) := hid (by rw [← HR.out]; exact decide_eq_false (by omega))
      go_wp2
      go_ret
      exact ⟨by rw [G.out]; rfl, HK1.out⟩
    have q4 : (c == 0) = true := eq_beq h4
    by_cases h5 : k = 0
    rotate_left
    · have q5 : (k == 0) = false := ne_beqF h5
      have G : Hid (R = false) := hid (by rw [← HR.out]; exact decide_eq_false (by omega))
      go_wp2
      go_ret
      exact ⟨by rw [G.out]; rfl, HK1.out⟩
    have q5 : (k == 0) = true := eq_beq h5
    have G : Hid (R = true) := hid (by rw [← HR.out]; exact decide_eq_true (by omega))
    go_wp2
    go_ret
    exact ⟨by rw [G.out]; rfl, HK1.out⟩

end Go.Proofs.YtbnhdmalkmcalaaDoor

namespace Go.Proofs.YtbnhdmalkmcalaaDoor
open Go.RowKit Go.Proofs.Heap Go.Proofs.Sch

theorem good_push (e a b c k : Int) (n : Nat) (h : e = 1) : goodOp n ⟨e, a, b, c, k⟩ = decide (a = 0 ∧ b = 0 ∧ c = 0) := by
  subst h; unfold goodOp; simp [codeB, namesN]
theorem good_elem (e a b c k : Int) (n : Nat) (h : e = 2 ∨ e = 3) : goodOp n ⟨e, a, b, c, k⟩ = decide (1 ≤ a ∧ a ≤ 24 ∧ 0 ≤ b ∧ b ≤ 7 ∧ 0 ≤ c ∧ c ≤ 7 ∧ k = 0) := by
  rcases h with rfl | rfl <;> (unfold goodOp; simp [codeB, namesN])
theorem good_way (e a b c k : Int) (n : Nat) (h : e = 16 ∨ e = 17) : goodOp n ⟨e, a, b, c, k⟩ = decide (a = 0 ∧ b = 0 ∧ c = 0 ∧ 0 ≤ k ∧ k ≤ n) := by
  rcases h with rfl | rfl <;> (unfold goodOp; simp [codeB, namesN])
theorem good_made (e a b c k : Int) (n : Nat) (h : e = 20 ∨ e = 21 ∨ e = 22) : goodOp n ⟨e, a, b, c, k⟩ = decide (1 ≤ a ∧ a ≤ 24 ∧ b = 0 ∧ c = 0 ∧ k = 0) := by
  rcases h with rfl | rfl | rfl <;> (unfold goodOp; simp [codeB, namesN])
theorem good_rest (e a b c k : Int) (n : Nat) (h : ¬ (e = 1 ∨ e = 2 ∨ e = 3 ∨ e = 16 ∨ e = 17 ∨ e = 20 ∨ e = 21 ∨ e = 22)) : goodOp n ⟨e, a, b, c, k⟩ = decide (4 ≤ e ∧ e ≤ 23 ∧ a = 0 ∧ b = 0 ∧ c = 0 ∧ k = 0) := by
  have hn : namesN e = 0 := by unfold namesN; rw [if_neg (by omega), if_neg (by omega), if_neg (by omega)]
  unfold goodOp codeB
  simp only [hn, if_true, ← Bool.decide_and]
  exact decide_eq_decide.2 (by omega)

theorem r_good (x : VOp) (n : Nat) (w : World) : Calls Tryd.prog 44 #[OV x, .int .i64 (n : Int)] w fun r w' => r = .returned (.bool (goodOp n x)) ∧ Keep (fun _ => False) w w' := by
  obtain ⟨e, a, b, c, k⟩ := x
  by_cases h1 : e = 1
  · rw [good_push e a b c k n h1]; subst h1; exact r_good_push1 a b c k n w
  by_cases h2 : e = 2
  · rw [good_elem e a b c k n (.inl h2)]; subst h2; exact r_good_elem2 a b c k n w
  by_cases h3 : e = 3
  · rw [good_elem e a b c k n (.inr h3)]; subst h3; exact r_good_elem3 a b c k n w
  by_cases h4 : e = 16
  · rw [good_way e a b c k n (.inl h4)]; subst h4; exact r_good_way16 a b c k n w
  by_cases h5 : e = 17
  · rw [good_way e a b c k n (.inr h5)]; subst h5; exact r_good_way17 a b c k n w
  by_cases h6 : e = 20
  · rw [good_made e a b c k n (.inl h6)]; subst h6; exact r_good_made20 a b c k n w
  by_cases h7 : e = 21
  · rw [good_made e a b c k n (.inr (.inl h7))]; subst h7; exact r_good_made21 a b c k n w
  by_cases h8 : e = 22
  · rw [good_made e a b c k n (.inr (.inr h8))]; subst h8; exact r_good_made22 a b c k n w
  have he : ¬ (e = 1 ∨ e = 2 ∨ e = 3 ∨ e = 16 ∨ e = 17 ∨ e = 20 ∨ e = 21 ∨ e = 22) := by omega
  rw [good_rest e a b c k n he]
  exact r_good_rest e a b c k n w he
end Go.Proofs.YtbnhdmalkmcalaaDoor
