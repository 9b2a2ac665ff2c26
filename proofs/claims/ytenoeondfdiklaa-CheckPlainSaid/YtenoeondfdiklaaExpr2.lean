/- What is proved: what Check of a formula answers. -/
import Derived.Test.YtenoeondfdiklaaExpr
namespace Go.Proofs.Ytenoeondfdiklaa
open Go.RowKit Go.Proofs.Heap Go.Proofs.Sch Go.Proofs.Wide

/-- The error of the instructions that are left, n numbers being there. -/
def exprRun : Nat → List Ins → Nat
  | n, [] => if n = 1 then 0 else 4
  | n, x :: r => if insB x = false ∨ n < argsN x.op then 4 else if 16 < n - argsN x.op + 1 then 4 else exprRun (n - argsN x.op + 1) r
/-- The error of a formula. -/
def exprC (code : List Ins) : Nat := if 64 < code.length then 5 else exprRun 0 code
theorem exprRun_cons (n : Nat) (x : Ins) (r : List Ins) : exprRun n (x :: r) = if insB x = false ∨ n < argsN x.op then 4 else if 16 < n - argsN x.op + 1 then 4 else exprRun (n - argsN x.op + 1) r := rfl
theorem argsN_le (op : Int) : argsN op ≤ 3 := by
  unfold argsN
  repeat' split
  all_goals omega

set_option maxRecDepth 20000 in
set_option maxHeartbeats 4000000 in
theorem expr_check (code : List Ins) (p : Option Addr) (cap : Nat) (w : World) (hfit : ∀ x ∈ code, x.k.fit) (hf : IP w w.heap.size p code) :
    Calls Try.prog 17 #[.slice p code.length cap] w fun r w' => r = .returned (iV (exprC code)) ∧ Keep (fun _ => False) w w' := by
  have HF := hid hf; have HX := hid hfit
  clear hf hfit
  go_enter Try.func17, Try.ntmps17
  by_cases hl : 64 < code.length
  · have g1 : decide ((64 : Int) < (code.length : Int)) = true := decide_eq_true (by omega)
    have g2 : decide (64 < code.length) = true := decide_eq_true hl
    have G : Hid (exprC code = 5) := hid (by unfold exprC; rw [if_pos hl])
    go_wp2
    go_ret
    exact ⟨by rw [G.out]; rfl, Keep.refl _ _⟩
  have g1 : decide ((64 : Int) < (code.length : Int)) = false := decide_eq_false (by omega)
  have g2 : decide (64 < code.length) = false := decide_eq_false hl
  have HE : Hid (exprC code = exprRun 0 code) := hid (by unfold exprC; rw [if_neg hl])
  go_wp2_with fail
  clear g1 g2
  go_loopw [3, 5, 11] (fun n _ i wr => ∃ k m : Nat, k ≤ code.length ∧ i = iV k ∧ n = iV m ∧ m ≤ 16 ∧ exprC code = exprRun m (code.drop k) ∧ Keep (fun _ => False) w wr) (fun _ _ i _ => code.length + 1 - (intOf i).toNat)
  case atStart => exact ⟨0, 0, Nat.zero_le _, rfl, rfl, by omega, HE.out, Keep.refl _ _⟩
  case round =>
    clear HE
    obtain ⟨k, m, hk, rfl, rfl, hm16, heq, hkr⟩ := hrel
    have HEQ := hid heq; have HKR := hid hkr
    clear heq hkr
    by_cases hlt : k < code.length
    · obtain ⟨x, hxk⟩ : ∃ x, code[k]? = some x := ⟨code[k], by simp [hlt]⟩
      have HEX := hid (show exprC code = if insB x = false ∨ m < argsN x.op then 4 else if 16 < m - argsN x.op + 1 then 4 else exprRun (m - argsN x.op + 1) (code.drop (k + 1)) by
        rw [HEQ.out, drop_next hxk, exprRun_cons])
      have HXF := hid (HX.out x (List.mem_of_getElem? hxk))
      have han := argsN_le x.op
      obtain ⟨b, off, rfl, hb, c0, c1, c2, c3, c4, c5⟩ := IP.at (IP.low HF.out (Low.keep0 HKR.out)) hxk
      have hin : (0 : Int) ≤ (k : Int) ∧ (k : Int) < (code.length : Int) := ⟨by omega, by omega⟩
      clear hxk hb HEQ
      obtain ⟨op, xa, xb, ⟨kn, kh, kl⟩⟩ := x
      simp only at c0 c1 c2 c3 c4 c5 HEX HXF han
      have HBX := hid (heap_alloc_new wr (.cells #[.int .i64 op, .int .i64 xa, .int .i64 xb, .bool kn, .int .u64 (kh : Int), .int .u64 (kl : Int)] 64))
      have HK1 := hid (HKR.out.alloc (.cells #[.int .i64 op, .int .i64 xa, .int .i64 xb, .bool kn, .int .u64 (kh : Int), .int .u64 (kl : Int)] 64))
      go_upto_region 7 with fail
      generalize wr.alloc (.cells #[.int .i64 op, .int .i64 xa, .int .i64 xb, .bool kn, .int .u64 (kh : Int), .int .u64 (kl : Int)] 64) = w1 at *
      generalize wr.heap.size = sb at *
      clear c0 c1 c2 c3 c4 c5
      have HW : Hid (∀ wy, Keep (fun _ => False) w1 wy → wy.cell? ⟨sb, 0, none⟩ = some (.int .i64 op) ∧ wy.cell? ⟨sb, 1, none⟩ = some (.int .i64 xa) ∧ wy.cell? ⟨sb, 2, none⟩ = some (.int .i64 xb) ∧ wy.cell? ⟨sb, 3, none⟩ = some (.bool kn) ∧ wy.cell? ⟨sb, 4, none⟩ = some (.int .u64 (kh : Int)) ∧ wy.cell? ⟨sb, 5, none⟩ = some (.int .u64 (kl : Int))) := hid (fun wy hk =>
        ⟨cell_of (hk.get HBX.out id) (by rfl), cell_of (hk.get HBX.out id) (by rfl), cell_of (hk.get HBX.out id) (by rfl), cell_of (hk.get HBX.out id) (by rfl), cell_of (hk.get HBX.out id) (by rfl), cell_of (hk.get HBX.out id) (by rfl)⟩)
      obtain ⟨s0, s1, s2, s3, s4, s5⟩ := HW.out _ (Keep.refl _ _)
      go_wp2_with fail
      refine (is_ins ⟨op, xa, xb, ⟨kn, kh, kl⟩⟩ HXF.out _).mono ?_
      rintro r w2 ⟨rfl, hk2⟩
      have HK2 := hid hk2
      clear hk2 s0 s1 s2 s3 s4 s5
      cases hib : insB ⟨op, xa, xb, ⟨kn, kh, kl⟩⟩
      · have G : Hid (exprC code = 4) := hid (by rw [HEX.out, if_pos (.inl hib)])
        clear hib
        go_wp2
        go_ret
        exact ⟨by rw [G.out]; rfl, HK1.out.trans HK2.out⟩
      have HIB := hid hib
      clear hib
      obtain ⟨s0, s1, s2, s3, s4, s5⟩ := HW.out _ HK2.out
      go_wp2_with fail
      refine (args_of ⟨op, xa, xb, ⟨kn, kh, kl⟩⟩ _).mono ?_
      rintro r w3 ⟨rfl, hk3⟩
      have HK3 := hid (HK2.out.trans hk3)
      clear hk3 s0 s1 s2 s3 s4 s5
      generalize hga : argsN op = ar at *
      have HGA := hid hga
      clear hga
      by_cases hma : m < ar
      · have g1 : decide ((m : Int) < (ar : Int)) = true := decide_eq_true (by omega)
        have g2 : decide (m < ar) = true := decide_eq_true hma
        have G : Hid (exprC code = 4) := hid (by rw [HEX.out, if_pos (.inr hma)])
        go_wp2
        go_ret
        exact ⟨by rw [G.out]; rfl, HK1.out.trans HK3.out⟩
      have g1 : decide ((m : Int) < (ar : Int)) = false := decide_eq_false (by omega)
      have g2 : decide (m < ar) = false := decide_eq_false hma
      obtain ⟨s0, s1, s2, s3, s4, s5⟩ := HW.out _ HK3.out
      go_wp2_with fail
      refine (args_of ⟨op, xa, xb, ⟨kn, kh, kl⟩⟩ _).mono ?_
      rintro r w4 ⟨rfl, hk4⟩
      have HK4 := hid (HK3.out.trans hk4)
      clear hk4 s0 s1 s2 s3 s4 s5 g1 g2
      rw [show argsN (⟨op, xa, xb, ⟨kn, kh, kl⟩⟩ : Ins).op = ar from HGA.out]
      obtain ⟨d, hd⟩ : ∃ d : Nat, m - ar + 1 = d := ⟨_, rfl⟩
      have hd1 : (m : Int) + (1 - (ar : Int)) = (d : Int) := by omega
      have hdn : ¬ (insB ⟨op, xa, xb, ⟨kn, kh, kl⟩⟩ = false ∨ m < ar) := by rw [HIB.out]; simp; omega
      have HD := hid (show exprC code = if 16 < d then 4 else exprRun d (code.drop (k + 1)) by rw [HEX.out, if_neg hdn, hd])
      have hd17 : d ≤ 17 := by omega
      have hd2 : wrap64 ((m : Int) + wrap64 (1 - (ar : Int))) = (d : Int) := by unfold wrap64; omega
      have hd3 : wrap64 ((m : Int) + (1 - (ar : Int))) = (d : Int) := by unfold wrap64; omega
      clear hd hdn HEX
      by_cases hbig : 16 < d
      · have g1 : decide ((16 : Int) < (d : Int)) = true := decide_eq_true (by omega)
        have g2 : decide (16 < d) = true := decide_eq_true hbig
        have G : Hid (exprC code = 4) := hid (by rw [HD.out, if_pos hbig])
        go_wp2
        go_ret
        exact ⟨by rw [G.out]; rfl, HK1.out.trans HK4.out⟩
      have g1 : decide ((16 : Int) < (d : Int)) = false := decide_eq_false (by omega)
      have g2 : decide (16 < d) = false := decide_eq_false hbig
      have G := hid (show exprC code = exprRun d (code.drop (k + 1)) by rw [HD.out, if_neg hbig])
      go_wp2
      go_roundw
      case rel => exact ⟨k + 1, d, by omega, by go_num, rfl, by omega, G.out, HK1.out.trans HK4.out⟩
      case measure => simp [intOf]; omega
    · obtain rfl : k = code.length := by omega
      have G : Hid (exprC code = if m = 1 then 0 else 4) := hid (by rw [HEQ.out, List.drop_length]; rfl)
      have g0 : decide ((code.length : Int) < (code.length : Int)) = false := decide_eq_false (by omega)
      by_cases h1 : m = 1
      · subst h1
        go_wp2
        go_ret
        exact ⟨by rw [G.out]; rfl, HKR.out⟩
      · have g1 : ((m : Int) != 1) = true := by simp only [bne, beq_eq_false_iff_ne.2 (show (m : Int) ≠ 1 by omega)]; rfl
        have g2 : (m != 1) = true := by simp only [bne, beq_eq_false_iff_ne.2 h1]; rfl
        have G2 : Hid (exprC code = 4) := hid (by rw [G.out, if_neg h1])
        go_wp2
        go_ret
        exact ⟨by rw [G2.out]; rfl, HKR.out⟩
end Go.Proofs.Ytenoeondfdiklaa
