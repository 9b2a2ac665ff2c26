/- What is proved: what Check of the document's formulas answers. -/
import Derived.Test.YtddleckbbinllaaGreatDoorMExAwake
import Derived.Test.YtddleckbbinllaaGreatDoorMExpr2
import Derived.Test.YtddleckbbinllaaGreatDoorMExDec
namespace Go.Proofs.YtddleckbbinllaaGreatDoor
open Go.RowKit Go.Proofs.Heap Go.Proofs.Sch Go.Proofs.Wide

set_option maxRecDepth 20000 in
set_option maxHeartbeats 8000000 in
theorem rf_check (code : List Ins) (p : Option Addr) (cap : Nat) (w : World) (hfit : ∀ x ∈ code, x.k.fit) (hf : IP w w.heap.size p code) :
    Calls Tryz.prog 15 #[.slice p code.length cap] w fun r w' => r = .returned (iV (exprC code)) ∧ Keep (fun _ => False) w w' := by
  have HF := hid hf; have HX := hid hfit
  clear hf hfit
  go_enter Tryz.func15, Tryz.ntmps15
  by_cases hl : 64 < code.length
  · have g1 : decide ((64 : Int) < (code.length : Int)) = true := decide_eq_true (by omega)
    have g2 : decide (64 < code.length) = true := decide_eq_true hl
    have G : Hid (exprC code = 5) := hid (by unfold exprC; rw [if_pos hl])
    go_wp2
    go_ret
    exact ⟨by rw [G.out]; rfl, Keep.refl _ _⟩
  have g1 : decide ((64 : Int) < (code.length : Int)) = false := decide_eq_false (by omega)
  have g2 : decide (64 < code.length) = false := decide_eq_false hl
  have HE : Hid (exprC code = exprRun 0 code) := hid (by unfold exprC; rw [if_neg hl])
  go_wp2_with fail
  clear g1 g2
  go_loopw [3, 4, 5] (fun n i _ wr => ∃ k m : Nat, k ≤ code.length ∧ i = iV k ∧ n = iV m ∧ m ≤ 16 ∧ exprC code = exprRun m (code.drop k) ∧ Keep (fun _ => False) w wr) (fun _ i _ _ => code.length + 1 - (intOf i).toNat)
  case atStart => exact ⟨0, 0, Nat.zero_le _, rfl, rfl, by omega, HE.out, Keep.refl _ _⟩
  case round =>
    clear HE
    obtain ⟨k, m, hk, rfl, rfl, hm16, heq, hkr⟩ := hrel
    have HEQ := hid heq; have HKR := hid hkr
    clear heq hkr
    by_cases hlt : k < code.length
    · obtain ⟨x, hxk⟩ : ∃ x, code[k]? = some x := ⟨code[k], by simp [hlt]⟩
      have HEX := hid (show exprC code = if insB x = false ∨ m < argsN x.op then 4 else if 16 < m - argsN x.op + 1 then 4 else exprRun (m - argsN x.op + 1) (code.drop (k + 1)) by
        rw [HEQ.out, drop_next hxk, exprRun_cons])
      have HXF := hid (HX.out x (List.mem_of_getElem? hxk))
      have han := argsN_le x.op
      obtain ⟨b, off, rfl, hb, c0, c1, c2, c3, c4, c5⟩ := IP.at (IP.low HF.out (Low.keep0 HKR.out)) hxk
      have hin : (0 : Int) ≤ (k : Int) ∧ (k : Int) < (code.length : Int) := ⟨by omega, by omega⟩
      clear hxk hb HEQ
      obtain ⟨op, xa, xb, ⟨kn, kh, kl⟩⟩ := x
      simp only at c0 c1 c2 c3 c4 c5 HEX HXF han
      obtain ⟨w1, hw1, hb1, hs1, hk1⟩ := box1 wr #[.int .i64 op, .int .i64 xa, .int .i64 xb, .bool kn, .int .u64 (kh : Int), .int .u64 (kl : Int)] 54
      have HK1 := hid (HKR.out.trans hk1)
      clear hs1 hk1
      go_upto_region 8 with fail
      rw [← hw1]
      clear hw1 c0 c1 c2 c3 c4 c5
      generalize wr.heap.size = sb at *
      have HW : Hid (∀ wy, Keep (fun _ => False) w1 wy → wy.cell? ⟨sb, 0, none⟩ = some (.int .i64 op) ∧ wy.cell? ⟨sb, 1, none⟩ = some (.int .i64 xa) ∧ wy.cell? ⟨sb, 2, none⟩ = some (.int .i64 xb) ∧ wy.cell? ⟨sb, 3, none⟩ = some (.bool kn) ∧ wy.cell? ⟨sb, 4, none⟩ = some (.int .u64 (kh : Int)) ∧ wy.cell? ⟨sb, 5, none⟩ = some (.int .u64 (kl : Int))) := hid (fun wy hk =>
        ⟨cell_of (hk.get hb1 id) (by rfl), cell_of (hk.get hb1 id) (by rfl), cell_of (hk.get hb1 id) (by rfl), cell_of (hk.get hb1 id) (by rfl), cell_of (hk.get hb1 id) (by rfl), cell_of (hk.get hb1 id) (by rfl)⟩)
      clear hb1
      have HNO : Hid (insB ⟨op, xa, xb, ⟨kn, kh, kl⟩⟩ = false → exprC code = 4) := hid (fun h => by rw [HEX.out, if_pos (.inl h)])
      obtain ⟨s0, s1, s2, s3, s4, s5⟩ := HW.out _ (Keep.refl _ _)
      by_cases h1 : 1 ≤ op
      rotate_left
      · have g1 : decide (op < 1) = true := decide_eq_true (by omega)
        have G := hid (HNO.out (by unfold insB; simp only; rw [decide_eq_false (show ¬ (1 ≤ op ∧ op ≤ 17) by omega)]; rfl))
        go_wp2
        go_ret
        exact ⟨by rw [G.out]; rfl, HK1.out⟩
      have g1 : decide (op < 1) = false := decide_eq_false (by omega)
      by_cases h2 : op ≤ 17
      rotate_left
      · have g2 : decide (17 < op) = true := decide_eq_true (by omega)
        have G := hid (HNO.out (by unfold insB; simp only; rw [decide_eq_false (show ¬ (1 ≤ op ∧ op ≤ 17) by omega)]; rfl))
        go_wp2
        go_ret
        exact ⟨by rw [G.out]; rfl, HK1.out⟩
      have g2 : decide (17 < op) = false := decide_eq_false (by omega)
      have HTK := hid (takesN_eq h1 h2)
      go_wp2_with fail
      refine (r_good ⟨kn, kh, kl⟩ HXF.out _).mono ?_
      rintro r w2 ⟨rfl, hk2⟩
      have HK2 := hid hk2
      clear hk2 s0 s1 s2 s3 s4 s5 g1 g2
      obtain ⟨s0, s1, s2, s3, s4, s5⟩ := HW.out _ HK2.out
      cases hfm : WI.form ⟨kn, kh, kl⟩
      · have G := hid (HNO.out (by unfold insB; simp only; rw [hfm]; simp))
        clear hfm
        go_wp2
        go_ret
        exact ⟨by rw [G.out]; rfl, HK1.out.trans HK2.out⟩
      have HFM := hid hfm
      clear hfm
      by_cases h3 : 0 ≤ xa
      rotate_left
      · have g3 : decide (xa < 0) = true := decide_eq_true (by omega)
        have G := hid (HNO.out (by unfold insB; simp only; rw [decide_eq_false (show ¬ (0 ≤ xa ∧ 0 ≤ xb ∧ xa < 8 ∧ xb < 8) by omega)]; simp))
        go_wp2
        go_ret
        exact ⟨by rw [G.out]; rfl, HK1.out.trans HK2.out⟩
      have g3 : decide (xa < 0) = false := decide_eq_false (by omega)
      by_cases h4 : xa < 8
      rotate_left
      · have g4 : decide (7 < xa) = true := decide_eq_true (by omega)
        have G := hid (HNO.out (by unfold insB; simp only; rw [decide_eq_false (show ¬ (0 ≤ xa ∧ 0 ≤ xb ∧ xa < 8 ∧ xb < 8) by omega)]; simp))
        go_wp2
        go_ret
        exact ⟨by rw [G.out]; rfl, HK1.out.trans HK2.out⟩
      have g4 : decide (7 < xa) = false := decide_eq_false (by omega)
      by_cases h5 : 0 ≤ xb
      rotate_left
      · have g5 : decide (xb < 0) = true := decide_eq_true (by omega)
        have G := hid (HNO.out (by unfold insB; simp only; rw [decide_eq_false (show ¬ (0 ≤ xa ∧ 0 ≤ xb ∧ xa < 8 ∧ xb < 8) by omega)]; simp))
        go_wp2
        go_ret
        exact ⟨by rw [G.out]; rfl, HK1.out.trans HK2.out⟩
      have g5 : decide (xb < 0) = false := decide_eq_false (by omega)
      by_cases h6 : xb < 8
      rotate_left
      · have g6 : decide (7 < xb) = true := decide_eq_true (by omega)
        have G := hid (HNO.out (by unfold insB; simp only; rw [decide_eq_false (show ¬ (0 ≤ xa ∧ 0 ≤ xb ∧ xa < 8 ∧ xb < 8) by omega)]; simp))
        go_wp2
        go_ret
        exact ⟨by rw [G.out]; rfl, HK1.out.trans HK2.out⟩
      have g6 : decide (7 < xb) = false := decide_eq_false (by omega)
      have HIB : Hid (insB ⟨op, xa, xb, ⟨kn, kh, kl⟩⟩ = true) := hid (by
        unfold insB; simp only; rw [HFM.out, decide_eq_true (show 1 ≤ op ∧ op ≤ 17 from ⟨h1, h2⟩), decide_eq_true (show 0 ≤ xa ∧ 0 ≤ xb ∧ xa < 8 ∧ xb < 8 by omega)]; rfl)
      go_wp2_with fail
      refine (takes_of op _).mono ?_
      rintro r w3 ⟨rfl, hk3⟩
      rw [HTK.out]
      have HK3 := hid (HK2.out.trans hk3)
      clear hk3 s0 s1 s2 s3 s4 s5 g3 g4 g5 g6 HNO
      generalize hga : argsN op = ar at *
      have HGA := hid hga
      clear hga
      by_cases hma : m < ar
      · have g1 : decide ((m : Int) < (ar : Int)) = true := decide_eq_true (by omega)
        have g2 : decide (m < ar) = true := decide_eq_true hma
        have G : Hid (exprC code = 4) := hid (by rw [HEX.out, if_pos (.inr hma)])
        go_wp2
        go_ret
        exact ⟨by rw [G.out]; rfl, HK1.out.trans HK3.out⟩
      have g1 : decide ((m : Int) < (ar : Int)) = false := decide_eq_false (by omega)
      have g2 : decide (m < ar) = false := decide_eq_false hma
      obtain ⟨s0, s1, s2, s3, s4, s5⟩ := HW.out _ HK3.out
      go_wp2_with fail
      refine (takes_of op _).mono ?_
      rintro r w4 ⟨rfl, hk4⟩
      rw [HTK.out]
      have HK4 := hid (HK3.out.trans hk4)
      clear hk4 s0 s1 s2 s3 s4 s5 g1 g2
      obtain ⟨d, hd⟩ : ∃ d : Nat, m - ar + 1 = d := ⟨_, rfl⟩
      have hdn : ¬ (insB ⟨op, xa, xb, ⟨kn, kh, kl⟩⟩ = false ∨ m < ar) := by rw [HIB.out]; simp; omega
      have HD := hid (show exprC code = if 16 < d then 4 else exprRun d (code.drop (k + 1)) by rw [HEX.out, if_neg hdn, hd])
      have hd17 : d ≤ 17 := by omega
      have hd1 : (m : Int) - (ar : Int) + 1 = (d : Int) := by omega
      have hd2 : wrap64 (wrap64 ((m : Int) - (ar : Int)) + 1) = (d : Int) := by unfold wrap64; omega
      have hd3 : wrap64 ((m : Int) - (ar : Int) + 1) = (d : Int) := by unfold wrap64; omega
      clear hd hdn HEX
      by_cases hbig : 16 < d
      · have g1 : decide ((16 : Int) < (d : Int)) = true := decide_eq_true (by omega)
        have g2 : decide (16 < d) = true := decide_eq_true hbig
        have G : Hid (exprC code = 4) := hid (by rw [HD.out, if_pos hbig])
        go_wp2
        go_ret
        exact ⟨by rw [G.out]; rfl, HK1.out.trans HK4.out⟩
      have g1 : decide ((16 : Int) < (d : Int)) = false := decide_eq_false (by omega)
      have g2 : decide (16 < d) = false := decide_eq_false hbig
      have G := hid (show exprC code = exprRun d (code.drop (k + 1)) by rw [HD.out, if_neg hbig])
      go_wp2
      go_roundw
      case rel => exact ⟨k + 1, d, by omega, by go_num, rfl, by omega, G.out, HK1.out.trans HK4.out⟩
      case measure => simp [intOf]; omega
    · obtain rfl : k = code.length := by omega
      have G : Hid (exprC code = if m = 1 then 0 else 4) := hid (by rw [HEQ.out, List.drop_length]; rfl)
      have g0 : decide ((code.length : Int) < (code.length : Int)) = false := decide_eq_false (by omega)
      by_cases h1 : m = 1
      · subst h1
        go_wp2
        go_ret
        exact ⟨by rw [G.out]; rfl, HKR.out⟩
      · have g1 : ((m : Int) != 1) = true := by simp only [bne, beq_eq_false_iff_ne.2 (show (m : Int) ≠ 1 by omega)]; rfl
        have g2 : (m != 1) = true := by simp only [bne, beq_eq_false_iff_ne.2 h1]; rfl
        have G2 : Hid (exprC code = 4) := hid (by rw [G.out, if_neg h1])
        go_wp2
        go_ret
        exact ⟨by rw [G2.out]; rfl, HKR.out⟩
end Go.Proofs.YtddleckbbinllaaGreatDoor

namespace Go.Proofs.YtddleckbbinllaaGreatDoor
open Go.RowKit Go.Proofs.Heap Go.Proofs.Sch

theorem info_u8L : (Tryz.prog.info? 5).map (fun i => (i.zero, i.size, i.bytes)) = some (some (.int .u8 0), 1, 1) := by kernel_rfl
/-- An owned row of bytes, as a text. -/
theorem run_row_string {w : World} {base : Nat} {sv : Value} {n : Nat} {l : List UInt8} (hn : l.length = n) (h : w.ownsRow base 5 1 sv n (l.map byteV)) :
    (convert 90 9 sv).run Tryz.prog w = .ok (.string ⟨l.toArray⟩) w := by
  rcases owns_block h with ⟨rfl, h0, h1⟩ | ⟨g, cap, cur, rfl, _, hg, _⟩
  · obtain rfl : l = [] := by simpa using h1
    kernel_rfl
  · refine run_bytes_string w _ _ 5 (by kernel_rfl) (by kernel_rfl) (by kernel_rfl) g 0 _ cap l hn fun i x hx => ?_
    rw [Nat.zero_add, owns_cell h (by rw [← hn]; exact (List.getElem?_eq_some_iff.1 hx).1), List.getElem?_map, hx]
    rfl
end Go.Proofs.YtddleckbbinllaaGreatDoor

namespace Go.Proofs.YtddleckbbinllaaGreatDoor
open Go.RowKit Go.Proofs.Heap Go.Proofs.Sch

theorem bs_app (a b : List UInt8) : bsB a ++ bsB b = bsB (a ++ b) := by
  apply ByteArray.ext
  apply Array.toList_inj.1
  rw [ByteArray.data_append, Array.toList_append]; rfl
theorem wrap8 {a : Nat} (h : a < 256) : IntKind.u8.wrap (a : Int) = (a : Int) := by simp [IntKind.wrap, IntKind.bits, IntKind.signed]; omega
theorem u8_of {n : Nat} (hn : n < 256) : ∃ m : UInt8, m.toNat = n ∧ UInt8.ofNat n = m := ⟨UInt8.ofNat n, by rw [UInt8.toNat_ofNat', Nat.mod_eq_of_lt hn], rfl⟩
theorem one_bsW {w : World} {b n : Nat} (hb : w.heap[b]? = some (.cells #[.int .u8 (n : Int)] 5 (0, 0))) (hn : n < 256) : (convert 90 9 (.slice (some ⟨b, 0, none⟩) 1 1)).run Tryz.prog w = .ok (.string (bsB (leL 1 n))) w := by
  obtain ⟨m, rfl, hm⟩ := u8_of hn
  have e : bsB (leL 1 m.toNat) = ⟨#[m]⟩ := by
    show (⟨#[UInt8.ofNat m.toNat]⟩ : ByteArray) = _
    rw [hm]
  rw [e]
  refine run_bytes_string _ _ _ 5 Tryz.underlying90 Tryz.underlying5 Tryz.underlying9 _ 0 1 1 [m] rfl (fun i x hx => ?_)
  match i, hx with
  | 0, hx =>
    injection hx with hx
    subst hx
    exact cell_of hb rfl
  | _ + 1, hx => simp at hx
theorem one_bs (w : World) (n : Nat) (hn : n < 256) : (convert 90 9 (.slice (some ⟨w.heap.size, 0, none⟩) 1 1)).run Tryz.prog (w.alloc (.cells #[.int .u8 (n : Int)] 5)) = .ok (.string (bsB (leL 1 n))) (w.alloc (.cells #[.int .u8 (n : Int)] 5)) :=
  one_bsW (heap_alloc_new w _) hn
theorem two_bs (w : World) (a b : Nat) (ha : a < 256) (hb : b < 256) : (convert 90 9 (.slice (some ⟨w.heap.size, 0, none⟩) 2 2)).run Tryz.prog (w.alloc (.cells #[.int .u8 (a : Int), .int .u8 (b : Int)] 5)) = .ok (.string (bsB (leL 1 a ++ leL 1 b))) (w.alloc (.cells #[.int .u8 (a : Int), .int .u8 (b : Int)] 5)) := by
  obtain ⟨m, rfl, hm⟩ := u8_of ha
  obtain ⟨k, rfl, hk⟩ := u8_of hb
  have e : bsB (leL 1 m.toNat ++ leL 1 k.toNat) = ⟨#[m, k]⟩ := by
    show (⟨#[UInt8.ofNat m.toNat, UInt8.ofNat k.toNat]⟩ : ByteArray) = _
    rw [hm, hk]
  rw [e]
  refine run_bytes_string _ _ _ 5 Tryz.underlying90 Tryz.underlying5 Tryz.underlying9 _ 0 2 2 [m, k] rfl (fun i x hx => ?_)
  match i, hx with
  | 0, hx =>
    injection hx with hx
    subst hx
    exact cell_of (heap_alloc_new w _) rfl
  | 1, hx =>
    injection hx with hx
    subst hx
    exact cell_of (heap_alloc_new w _) rfl
  | _ + 2, hx => simp at hx
end Go.Proofs.YtddleckbbinllaaGreatDoor
