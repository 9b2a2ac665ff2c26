/- What is proved: what Check of the document's formulas answers. -/
import Derived.Test.YtddleckbbinllaaGreatDoorMExAwake
import Derived.Test.YtddleckbbinllaaGreatDoorMExDec
import Derived.Test.YtddleckbbinllaaGreatDoorMExDecLaw
import Derived.Test.YtddleckbbinllaaGreatDoorMExpr2
namespace Go.Proofs.YtddleckbbinllaaGreatDoor
open Go.RowKit Go.Proofs.Heap Go.Proofs.Sch Go.Proofs.Wide

set_option maxRecDepth 20000 in
set_option maxHeartbeats 8000000 in
theorem rf_check (code : List Ins) (p : Option Addr) (cap : Nat) (w : World) (hfit : ∀ x ∈ code, x.k.fit) (hf : IP w w.heap.size p code) :
    Calls Tryz.prog 15 #[.slice p code.length cap] w fun r w' => r = .returned (iV (exprC code)) ∧ Keep (fun _ => False) w w' := by
  have HF := hid hf; have HX := hid hfit
  clear hf hfit
  go_enter Tryz.func15, Tryz.ntmps15
  by_cases hl : 64 < code.length
  · have g1 : decide ((64 : Int) < (code.length : Int)) = true := decide_eq_true (by omega)
    have g2 : decide (64 < code.length) = true := decide_eq_true hl
    have G : Hid (exprC code = 5) := hid (by unfold exprC; rw [if_pos hl])
    go_wp2
    go_ret
    exact ⟨by rw [G.out]; rfl, Keep.refl _ _⟩
  have g1 : decide ((64 : Int) < (code.length : Int)) = false := decide_eq_false (by omega)
  have g2 : decide (64 < code.length) = false := decide_eq_false hl
  have HE : Hid (exprC code = exprRun 0 code) := hid (by unfold exprC; rw [if_neg hl])
  go_wp2_with fail
  clear g1 g2
  go_loopw [3, 4, 5] (fun n i _ wr => ∃ k m : Nat, k ≤ code.length ∧ i = iV k ∧ n = iV m ∧ m ≤ 16 ∧ exprC code = exprRun m (code.drop k) ∧ Keep (fun _ => False) w wr) (fun _ i _ _ => code.length + 1 - (intOf i).toNat)
  case atStart => exact ⟨0, 0, Nat.zero_le _, rfl, rfl, by omega, HE.out, Keep.refl _ _⟩
  case round =>
    clear HE
    obtain ⟨k, m, hk, rfl, rfl, hm16, heq, hkr⟩ := hrel
    have HEQ := hid heq; have HKR := hid hkr
    clear heq hkr
    by_cases hlt : k < code.length
    · obtain ⟨x, hxk⟩ : ∃ x, code[k]? = some x := ⟨code[k], by simp [hlt]⟩
      have HEX := hid (show exprC code = if insB x = false ∨ m < argsN x.op then 4 else if 16 < m - argsN x.op + 1 then 4 else exprRun (m - argsN x.op + 1) (code.drop (k + 1)) by
        rw [HEQ.out, drop_next hxk, exprRun_cons])
      have HXF := hid (HX.out x (List.mem_of_getElem? hxk))
      have han := argsN_le x.op
      obtain ⟨b, off, rfl, hb, c0, c1, c2, c3, c4, c5⟩ := IP.at (IP.low HF.out (Low.keep0 HKR.out)) hxk
      have hin : (0 : Int) ≤ (k : Int) ∧ (k : Int) < (code.length : Int) := ⟨by omega, by omega⟩
      clear hxk hb HEQ
      obtain ⟨op, xa, xb, ⟨kn, kh, kl⟩⟩ := x
      simp only at c0 c1 c2 c3 c4 c5 HEX HXF han
      obtain ⟨w1, hw1, hb1, hs1, hk1⟩ := box1 wr #[.int .i64 op, .int .i64 xa, .int .i64 xb, .bool kn, .int .u64 (kh : Int), .int .u64 (kl : Int)] 54
      have HK1 := hid (HKR.out.trans hk1)
      clear hs1 hk1
      go_upto_region 8 with fail
      rw [← hw1]
      clear hw1 c0 c1 c2 c3 c4 c5
      generalize wr.heap.size = sb at *
      have HW : Hid (∀ wy, Keep (fun _ => False) w1 wy → wy.cell? ⟨sb, 0, none⟩ = some (.int .i64 op) ∧ wy.cell? ⟨sb, 1, none⟩ = some (.int .i64 xa) ∧ wy.cell? ⟨sb, 2, none⟩ = some (.int .i64 xb) ∧ wy.cell? ⟨sb, 3, none⟩ = some (.bool kn) ∧ wy.cell? ⟨sb, 4, none⟩ = some (.int .u64 (kh : Int)) ∧ wy.cell? ⟨sb, 5, none⟩ = some (.int .u64 (kl : Int))) := hid (fun wy hk =>
        ⟨cell_of (hk.get hb1 id) (by rfl), cell_of (hk.get hb1 id) (by rfl), cell_of (hk.get hb1 id) (by rfl), cell_of (hk.get hb1 id) (by rfl), cell_of (hk.get hb1 id) (by rfl), cell_of (hk.get hb1 id) (by rfl)⟩)
      clear hb1
      have HNO : Hid (insB ⟨op, xa, xb, ⟨kn, kh, kl⟩⟩ = false → exprC code = 4) := hid (fun h => by rw [HEX.out, if_pos (.inl h)])
      obtain ⟨s0, s1, s2, s3, s4, s5⟩ := HW.out _ (Keep.refl _ _)
      by_cases h1 : 1 ≤ op
      rotate_left
      · have g1 : decide (op < 1) = true := decide_eq_true (by omega)
        have G := hid (HNO.out (by unfold insB; simp only; rw [decide_eq_false (show ¬ (1 ≤ op ∧ op ≤ 17) by omega)]; rfl))
        go_wp2
        go_ret
        exact ⟨by rw [G.out]; rfl, HK1.out⟩
      have g1 : decide (op < 1) = false := decide_eq_false (by omega)
      by_cases h2 : op ≤ 17
      rotate_left
      · have g2 : decide (17 < op) = true := decide_eq_true (by omega)
        have G := hid (HNO.out (by unfold insB; simp only; rw [decide_eq_false (show ¬ (1 ≤ op ∧ op ≤ 17) by omega)]; rfl))
        go_wp2
        go_ret
        exact ⟨by rw [G.out]; rfl, HK1.out⟩
      have g2 : decide (17 < op) = false := decide_eq_false (by omega)
      have HTK := hid (takesN_eq h1 h2)
      go_wp2_with fail
      refine (r_good ⟨kn, kh, kl⟩ HXF.out _).mono ?_
      rintro r w2 ⟨rfl, hk2⟩
      have HK2 := hid hk2
      clear hk2 s0 s1 s2 s3 s4 s5 g1 g2
      obtain ⟨s0, s1, s2, s3, s4, s5⟩ := HW.out _ HK2.out
      cases hfm : WI.form ⟨kn, kh, kl⟩
      · have G := hid (HNO.out (by unfold insB; simp only; rw [hfm]; simp))
        clear hfm
        go_wp2
        go_ret
        exact ⟨by rw [G.out]; rfl, HK1.out.trans HK2.out⟩
      have HFM := hid hfm
      clear hfm
      by_cases h3 : 0 ≤ xa
      rotate_left
      · have g3 : decide (xa < 0) = true := decide_eq_true (by omega)
        have G := hid (HNO.out (by unfold insB; simp only; rw [decide_eq_false (show ¬ (0 ≤ xa ∧ 0 ≤ xb ∧ xa < 8 ∧ xb < 8) by omega)]; simp))
        go_wp2
        go_ret
        exact ⟨by rw [G.out]; rfl, HK1.out.trans HK2.out⟩
      have g3 : decide (xa < 0) = false := decide_eq_false (by omega)
      by_cases h4 : xa < 8
      rotate_left
      · have g4 : decide (7 < xa) = true := decide_eq_true (by omega)
        have G := hid (HNO.out (by unfold insB; simp only; rw [decide_eq_false (show ¬ (0 ≤ xa ∧ 0 ≤ xb ∧ xa < 8 ∧ xb < 8) by omega)]; simp))
        go_wp2
        go_ret
        exact ⟨by rw [G.out]; rfl, HK1.out.trans HK2.out⟩
      have g4 : decide (7 < xa) = false := decide_eq_false (by omega)
      by_cases h5 : 0 ≤ xb
      rotate_left
      · have g5 : decide (xb < 0) = true := decide_eq_true (by omega)
        have G := hid (HNO.out (by unfold insB; simp only; rw [decide_eq_false (show ¬ (0 ≤ xa ∧ 0 ≤ xb ∧ xa < 8 ∧ xb < 8) by omega)]; simp))
        go_wp2
        go_ret
        exact ⟨by rw [G.out]; rfl, HK1.out.trans HK2.out⟩
      have g5 : decide (xb < 0) = false := decide_eq_false (by omega)
      by_cases h6 : xb < 8
      rotate_left
      · have g6 : decide (7 < xb) = true := decide_eq_true (by omega)
        have G := hid (HNO.out (by unfold insB; simp only; rw [decide_eq_false (show ¬ (0 ≤ xa ∧ 0 ≤ xb ∧ xa < 8 ∧ xb < 8) by omega)]; simp))
        go_wp2
        go_ret
        exact ⟨by rw [G.out]; rfl, HK1.out.trans HK2.out⟩
      have g6 : decide (7 < xb) = false := decide_eq_false (by omega)
      have HIB : Hid (insB ⟨op, xa, xb, ⟨kn, kh, kl⟩⟩ = true) := hid (by
        unfold insB; simp only; rw [HFM.out, decide_eq_true (show 1 ≤ op ∧ op ≤ 17 from ⟨h1, h2⟩), decide_eq_true (show 0 ≤ xa ∧ 0 ≤ xb ∧ xa < 8 ∧ xb < 8 by omega)]; rfl)
      go_wp2_with fail
      refine (takes_of op _).mono ?_
      rintro r w3 ⟨rfl, hk3⟩
      rw [HTK.out]
      have HK3 := hid (HK2.out.trans hk3)
      clear hk3 s0 s1 s2 s3 s4 s5 g3 g4 g5 g6 HNO
      generalize hga : argsN op = ar at *
      have HGA := hid hga
      clear hga
      by_cases hma : m < ar
      · have g1 : decide ((m : Int) < (ar : Int)) = true := decide_eq_true (by omega)
        have g2 : decide (m < ar) = true := decide_eq_true hma
        have G : Hid (exprC code = 4) := hid (by rw [HEX.out, if_pos (.inr hma)])
        go_wp2
        go_ret
        exact ⟨by rw [G.out]; rfl, HK1.out.trans HK3.out⟩
      have g1 : decide ((m : Int) < (ar : Int)) = false := decide_eq_false (by omega)
      have g2 : decide (m < ar) = false := decide_eq_false hma
      obtain ⟨s0, s1, s2, s3, s4, s5⟩ := HW.out _ HK3.out
      go_wp2_with fail
      refine (takes_of op _).mono ?_
      rintro r w4 ⟨rfl, hk4⟩
      rw [HTK.out]
      have HK4 := hid (HK3.out.trans hk4)
      clear hk4 s0 s1 s2 s3 s4 s5 g1 g2
      obtain ⟨d, hd⟩ : ∃ d : Nat, m - ar + 1 = d := ⟨_, rfl⟩
      have hdn : ¬ (insB ⟨op, xa, xb, ⟨kn, kh, kl⟩⟩ = false ∨ m < ar) := by rw [HIB.out]; simp; omega
      have HD := hid (show exprC code = if 16 < d then 4 else exprRun d (code.drop (k + 1)) by rw [HEX.out, if_neg hdn, hd])
      have hd17 : d ≤ 17 := by omega
      have hd1 : (m : Int) - (ar : Int) + 1 = (d : Int) := by omega
      have hd2 : wrap64 (wrap64 ((m : Int) - (ar : Int)) + 1) = (d : Int) := by unfold wrap64; omega
      have hd3 : wrap64 ((m : Int) - (ar : Int) + 1) = (d : Int) := by unfold wrap64; omega
      clear hd hdn HEX
      by_cases hbig : 16 < d
      · have g1 : decide ((16 : Int) < (d : Int)) = true := decide_eq_true (by omega)
        have g2 : decide (16 < d) = true := decide_eq_true hbig
        have G : Hid (exprC code = 4) := hid (by rw [HD.out, if_pos hbig])
        go_wp2
        go_ret
        exact ⟨by rw [G.out]; rfl, HK1.out.trans HK4.out⟩
      have g1 : decide ((16 : Int) < (d : Int)) = false := decide_eq_false (by omega)
      have g2 : decide (16 < d) = false := decide_eq_false hbig
      have G := hid (show exprC code = exprRun d (code.drop (k + 1)) by rw [HD.out, if_neg hbig])
      go_wp2
      go_roundw
      case rel => exact ⟨k + 1, d, by omega, by go_num, rfl, by omega, G.out, HK1.out.trans HK4.out⟩
      case measure => simp [intOf]; omega
    · obtain rfl : k = code.length := by omega
      have G : Hid (exprC code = if m = 1 then 0 else 4) := hid (by rw [HEQ.out, List.drop_length]; rfl)
      have g0 : decide ((code.length : Int) < (code.length : Int)) = false := decide_eq_false (by omega)
      by_cases h1 : m = 1
      · subst h1
        go_wp2
        go_ret
        exact ⟨by rw [G.out]; rfl, HKR.out⟩
      · have g1 : ((m : Int) != 1) = true := by simp only [bne, beq_eq_false_iff_ne.2 (show (m : Int) ≠ 1 by omega)]; rfl
        have g2 : (m != 1) = true := by simp only [bne, beq_eq_false_iff_ne.2 h1]; rfl
        have G2 : Hid (exprC code = 4) := hid (by rw [G.out, if_neg h1])
        go_wp2
        go_ret
        exact ⟨by rw [G2.out]; rfl, HKR.out⟩
end Go.Proofs.YtddleckbbinllaaGreatDoor

namespace Go.Proofs.YtddleckbbinllaaGreatDoor
open Go.RowKit Go.Proofs.Heap Go.Proofs.Sch

/-- A reader at a place of bytes. -/
def atS (L : List UInt8) (a : Nat) : St := (bsB (L.drop a), false)
theorem rdN_at {L : List UInt8} {a wd : Nat} (h : a + wd ≤ L.length) : rdN wd (atS L a) = (leN ((L.drop a).take wd), atS L (a + wd)) := by
  unfold rdN atS
  rw [if_pos ⟨rfl, by rw [bs_size, List.length_drop]; omega⟩, bs_drop, List.drop_drop]
  unfold firstN
  rw [bs_list]
theorem rdN_short {L : List UInt8} {a wd : Nat} (h : L.length < a + wd) (h0 : 1 ≤ wd) : (rdN wd (atS L a)).2.2 = true := by
  unfold rdN atS
  rw [if_neg (by
    rintro ⟨_, h2⟩
    rw [bs_size, List.length_drop] at h2
    omega)]
theorem rdN_bad {wd : Nat} {st : St} (h : st.2 = true) : (rdN wd st).2 = st := by
  unfold rdN
  rw [if_neg (by rw [h]; simp)]
  exact Prod.ext rfl h.symm
theorem rdNm_bad {st : St} (h : st.2 = true) : (rdNm st).2 = st := by
  unfold rdNm
  rw [if_neg (by rw [h]; simp)]
  exact Prod.ext rfl h.symm
theorem rd_byte {L : List UInt8} {a : Nat} {b : UInt8} (h : L[a]? = some b) : rdN 1 (atS L a) = (b.toNat, atS L (a + 1)) := by
  have hl := (List.getElem?_eq_some_iff.1 h).1
  rw [rdN_at (by omega), drop_next h, List.take_succ_cons, List.take_zero, leN, leN]
  rfl
theorem rdNm_at {L : List UInt8} {a : Nat} {b : UInt8} (h : L[a]? = some b) (hl : a + 1 + b.toNat ≤ L.length) : rdNm (atS L a) = (bsB ((L.drop (a + 1)).take b.toNat), atS L (a + 1 + b.toNat)) := by
  have hl0 := (List.getElem?_eq_some_iff.1 h).1
  have hf : firstN (bsB (L.drop a)) 1 = b.toNat := by
    unfold firstN
    rw [bs_list, drop_next h, List.take_succ_cons, List.take_zero, leN, leN]; rfl
  unfold rdNm atS
  rw [if_pos ⟨rfl, by
    unfold nmOk
    simp only [hf, bs_size, List.length_drop]
    omega⟩]
  simp only [hf, bs_drop, List.drop_drop]
  rw [bs_ext, List.drop_drop, Nat.add_sub_cancel_left, Nat.add_assoc]
theorem rdNm_short {L : List UInt8} {a : Nat} (h : L.length ≤ a ∨ ∃ b : UInt8, L[a]? = some b ∧ L.length < a + 1 + b.toNat) : (rdNm (atS L a)).2.2 = true := by
  unfold rdNm atS
  rw [if_neg]
  rintro ⟨_, h1, h2⟩
  simp only [bs_size, List.length_drop] at h1 h2
  rcases h with h | ⟨b, hb, h⟩
  · omega
  · have hl0 := (List.getElem?_eq_some_iff.1 hb).1
    have hf : firstN (bsB (L.drop a)) 1 = b.toNat := by
      unfold firstN
      rw [bs_list, drop_next hb, List.take_succ_cons, List.take_zero, leN, leN]; rfl
    rw [hf] at h2
    omega
end Go.Proofs.YtddleckbbinllaaGreatDoor

namespace Go.Proofs.YtddleckbbinllaaGreatDoor
open Go.RowKit Go.Proofs.Heap Go.Proofs.Sch Go.Proofs.Wide

/-- How many bytes an instruction has. -/
def szI (op : Nat) : Nat := if op = 1 then 18 else if op = 2 then 3 else if op = 3 then 2 else 1
theorem at_zero11 (s : ByteArray) : ((s, false) : St) = atS s.data.toList 0 := by unfold atS; rw [List.drop_zero, bs_of]
theorem rdI_end {L : List UInt8} {a : Nat} (h : L.length ≤ a) : (rdI (atS L a)).2.2 = true := by
  have h1 := rdN_short (L := L) (a := a) (wd := 1) (by omega) (by omega)
  have e : (rdN 1 (atS L a)).1 = 0 := by
    unfold rdN atS
    rw [if_neg (by
      rintro ⟨_, h2⟩
      rw [bs_size, List.length_drop] at h2
      omega)]
  rw [rdI_o (op := 0) (st1 := (rdN 1 (atS L a)).2) (Prod.ext e rfl) (by omega) (by omega) (by omega)]
  exact h1
theorem rdI_short {L : List UInt8} {a : Nat} {b : UInt8} (h : L[a]? = some b) (hl : L.length < a + szI b.toNat) : (rdI (atS L a)).2.2 = true := by
  have h0 := rd_byte h
  have hla := (List.getElem?_eq_some_iff.1 h).1
  unfold szI at hl
  split at hl
  next e =>
    rw [e] at h0
    rw [rdI_1 h0]
    show (rdN 8 (rdN 8 (rdN 1 (atS L (a + 1))).2).2).2.2 = true
    by_cases g1 : a + 1 + 1 ≤ L.length
    · rw [rdN_at g1]
      show (rdN 8 (rdN 8 (atS L (a + 1 + 1))).2).2.2 = true
      by_cases g2 : a + 1 + 1 + 8 ≤ L.length
      · rw [rdN_at g2]
        exact rdN_short (by omega) (by omega)
      · have h2 := rdN_short (L := L) (a := a + 1 + 1) (wd := 8) (by omega) (by omega)
        rw [rdN_bad h2]; exact h2
    · have h2 := rdN_short (L := L) (a := a + 1) (wd := 1) (by omega) (by omega)
      have h3 : (rdN 8 (rdN 1 (atS L (a + 1))).2).2.2 = true := by rw [rdN_bad h2]; exact h2
      rw [rdN_bad h3]; exact h3
  next e1 =>
  split at hl
  next e =>
    rw [e] at h0
    rw [rdI_2 h0]
    show (rdN 1 (rdN 1 (atS L (a + 1))).2).2.2 = true
    by_cases g1 : a + 1 + 1 ≤ L.length
    · rw [rdN_at g1]
      exact rdN_short (by omega) (by omega)
    · have h2 := rdN_short (L := L) (a := a + 1) (wd := 1) (by omega) (by omega)
      rw [rdN_bad h2]; exact h2
  next e2 =>
  split at hl
  next e =>
    rw [e] at h0
    rw [rdI_3 h0]
    exact rdN_short (by omega) (by omega)
  next e3 => omega
theorem rdI_at1 {L : List UInt8} {a : Nat} {b g : UInt8} (h : L[a]? = some b) (hb : b.toNat = 1) (hg : L[a + 1]? = some g) (hl : a + 18 ≤ L.length) :
    rdI (atS L a) = ((⟨1, 0, 0, ⟨decide (g.toNat = 1), leN ((L.drop (a + 10)).take 8), leN ((L.drop (a + 2)).take 8)⟩⟩, decide (g.toNat ≤ 1)), atS L (a + 18)) := by
  have h0 := rd_byte h
  rw [hb] at h0
  have h1 : rdN 8 (atS L (a + 2)) = (leN ((L.drop (a + 2)).take 8), atS L (a + 10)) := rdN_at (by omega)
  have h2 : rdN 8 (atS L (a + 10)) = (leN ((L.drop (a + 10)).take 8), atS L (a + 18)) := rdN_at (by omega)
  rw [rdI_1 h0, rd_byte hg]
  show ((_, _), _) = _
  simp only [show a + 1 + 1 = a + 2 from rfl, h1, h2]
theorem rdI_at2 {L : List UInt8} {a : Nat} {b x y : UInt8} (h : L[a]? = some b) (hb : b.toNat = 2) (hx : L[a + 1]? = some x) (hy : L[a + 2]? = some y) :
    rdI (atS L a) = ((⟨2, (x.toNat : Int), (y.toNat : Int), zW⟩, true), atS L (a + 3)) := by
  have h0 := rd_byte h
  rw [hb] at h0
  have h2 : rdN 1 (atS L (a + 2)) = (y.toNat, atS L (a + 3)) := rd_byte hy
  rw [rdI_2 h0, rd_byte hx]
  simp only [show a + 1 + 1 = a + 2 from rfl, h2]
theorem rdI_at3 {L : List UInt8} {a : Nat} {b x : UInt8} (h : L[a]? = some b) (hb : b.toNat = 3) (hx : L[a + 1]? = some x) :
    rdI (atS L a) = ((⟨3, (x.toNat : Int), 0, zW⟩, true), atS L (a + 2)) := by
  have h0 := rd_byte h
  rw [hb] at h0
  rw [rdI_3 h0, rd_byte hx]
theorem rdI_at0 {L : List UInt8} {a : Nat} {b : UInt8} (h : L[a]? = some b) (h1 : b.toNat ≠ 1) (h2 : b.toNat ≠ 2) (h3 : b.toNat ≠ 3) :
    rdI (atS L a) = ((⟨(b.toNat : Int), 0, 0, zW⟩, true), atS L (a + 1)) := rdI_o (rd_byte h) h1 h2 h3
/-- A row that is broken off within. -/
theorem row_badX {α : Type} (f : St → α × St) {n k : Nat} {st st0 : St} {out : List α} (hk : k < n) (hr : rdRow f n st0 = (out ++ (rdRow f (n - k) st).1, (rdRow f (n - k) st).2)) (h0 : st.2 = false) (h : (f st).2.2 = true) : (rdRow f n st0).2.2 = true := by
  rw [hr]
  show (rdRow f (n - k) st).2.2 = true
  rw [show n - k = (n - (k + 1)) + 1 by omega, rdRow_next f _ h0]
  show (rdRow f (n - (k + 1)) (f st).2).2.2 = true
  rw [rdRow_bad f _ h]
  exact h
theorem row_flag {n k : Nat} {st st0 : St} {out : List (Ins × Bool)} (hk : k < n) (hr : rdRow rdI n st0 = (out ++ (rdRow rdI (n - k) st).1, (rdRow rdI (n - k) st).2)) (h0 : st.2 = false) (h : (rdI st).1.2 = false) : (rdRow rdI n st0).1.all (·.2) = false := by
  rw [hr, show n - k = (n - (k + 1)) + 1 by omega, rdRow_next rdI _ h0]
  simp [h]
theorem row_step {α : Type} (f : St → α × St) {n k : Nat} {st st0 : St} {out : List α} (hk : k < n) (hr : rdRow f n st0 = (out ++ (rdRow f (n - k) st).1, (rdRow f (n - k) st).2)) (h0 : st.2 = false) {x : α} {st2 : St} (h : f st = (x, st2)) : rdRow f n st0 = (out ++ [x] ++ (rdRow f (n - (k + 1)) st2).1, (rdRow f (n - (k + 1)) st2).2) := by
  rw [hr, show n - k = (n - (k + 1)) + 1 by omega, rdRow_next f _ h0, h]
  simp
theorem noX {s : ByteArray} (h : (rdL s).2.2 = true) : goodX s = false := by unfold goodX; rw [h]; simp
theorem noX1 {s : ByteArray} (h : (rdL s).1.all (·.2) = false) : goodX s = false := by unfold goodX; rw [h]; simp
theorem noX2 {s : ByteArray} (h : (rdL s).2.1.size ≠ 0) : goodX s = false := by unfold goodX; rw [decide_eq_false h]; simp
theorem zeroX {s : ByteArray} (h : goodX s = false) : decX s = [] := by unfold decX; rw [h]; rfl
theorem emptyX {s : ByteArray} (h : s.size = 0) : goodX s = false := by
  refine noX ?_
  have hl : s.data.toList.length = s.size := Array.length_toList
  unfold rdL
  rw [at_zero11]
  have h1 := rdN_short (L := s.data.toList) (a := 0) (wd := 1) (by omega) (by omega)
  rw [rdRow_bad rdI _ h1]
  exact h1
theorem rdL_at {s : ByteArray} {b : UInt8} (h : s.data.toList[0]? = some b) : rdL s = rdRow rdI b.toNat (atS s.data.toList 1) := by
  unfold rdL
  rw [at_zero11, rd_byte h]
theorem codeR_of {s : ByteArray} {out : List Ins} {st : St} (h : rdL s = (out.map (fun x => (x, true)), st)) : codeR s = out ∧ goodX s = (!st.2 && decide (st.1.size = 0) && decide (exprC out = 0)) := by
  have e : codeR s = out := by
    unfold codeR
    rw [h]
    exact map_pair out
  refine ⟨e, ?_⟩
  unfold goodX
  rw [e, h]
  have ha : (out.map (fun x => (x, true))).all (·.2) = true := by
    rw [List.all_eq_true]
    intro y hy
    obtain ⟨z, _, rfl⟩ := List.mem_map.1 hy
    rfl
  rw [ha]
  rfl
end Go.Proofs.YtddleckbbinllaaGreatDoor

namespace Go.Proofs.YtddleckbbinllaaGreatDoor
open Go.RowKit Go.Proofs.Heap Go.Proofs.Sch

theorem info_u8L : (Tryz.prog.info? 5).map (fun i => (i.zero, i.size, i.bytes)) = some (some (.int .u8 0), 1, 1) := by kernel_rfl
/-- An owned row of bytes, as a text. -/
theorem run_row_string {w : World} {base : Nat} {sv : Value} {n : Nat} {l : List UInt8} (hn : l.length = n) (h : w.ownsRow base 5 1 sv n (l.map byteV)) :
    (convert 90 9 sv).run Tryz.prog w = .ok (.string ⟨l.toArray⟩) w := by
  rcases owns_block h with ⟨rfl, h0, h1⟩ | ⟨g, cap, cur, rfl, _, hg, _⟩
  · obtain rfl : l = [] := by simpa using h1
    kernel_rfl
  · refine run_bytes_string w _ _ 5 (by kernel_rfl) (by kernel_rfl) (by kernel_rfl) g 0 _ cap l hn fun i x hx => ?_
    rw [Nat.zero_add, owns_cell h (by rw [← hn]; exact (List.getElem?_eq_some_iff.1 hx).1), List.getElem?_map, hx]
    rfl
end Go.Proofs.YtddleckbbinllaaGreatDoor

namespace Go.Proofs.YtddleckbbinllaaGreatDoor
open Go.RowKit Go.Proofs.Heap Go.Proofs.Sch

theorem bs_app (a b : List UInt8) : bsB a ++ bsB b = bsB (a ++ b) := by
  apply ByteArray.ext
  apply Array.toList_inj.1
  rw [ByteArray.data_append, Array.toList_append]; rfl
theorem wrap8 {a : Nat} (h : a < 256) : IntKind.u8.wrap (a : Int) = (a : Int) := by simp [IntKind.wrap, IntKind.bits, IntKind.signed]; omega
theorem u8_of {n : Nat} (hn : n < 256) : ∃ m : UInt8, m.toNat = n ∧ UInt8.ofNat n = m := ⟨UInt8.ofNat n, by rw [UInt8.toNat_ofNat', Nat.mod_eq_of_lt hn], rfl⟩
theorem one_bsW {w : World} {b n : Nat} (hb : w.heap[b]? = some (.cells #[.int .u8 (n : Int)] 5 (0, 0))) (hn : n < 256) : (convert 90 9 (.slice (some ⟨b, 0, none⟩) 1 1)).run Tryz.prog w = .ok (.string (bsB (leL 1 n))) w := by
  obtain ⟨m, rfl, hm⟩ := u8_of hn
  have e : bsB (leL 1 m.toNat) = ⟨#[m]⟩ := by
    show (⟨#[UInt8.ofNat m.toNat]⟩ : ByteArray) = _
    rw [hm]
  rw [e]
  refine run_bytes_string _ _ _ 5 Tryz.underlying90 Tryz.underlying5 Tryz.underlying9 _ 0 1 1 [m] rfl (fun i x hx => ?_)
  match i, hx with
  | 0, hx =>
    injection hx with hx
    subst hx
    exact cell_of hb rfl
  | _ + 1, hx => simp at hx
theorem one_bs (w : World) (n : Nat) (hn : n < 256) : (convert 90 9 (.slice (some ⟨w.heap.size, 0, none⟩) 1 1)).run Tryz.prog (w.alloc (.cells #[.int .u8 (n : Int)] 5)) = .ok (.string (bsB (leL 1 n))) (w.alloc (.cells #[.int .u8 (n : Int)] 5)) :=
  one_bsW (heap_alloc_new w _) hn
theorem two_bs (w : World) (a b : Nat) (ha : a < 256) (hb : b < 256) : (convert 90 9 (.slice (some ⟨w.heap.size, 0, none⟩) 2 2)).run Tryz.prog (w.alloc (.cells #[.int .u8 (a : Int), .int .u8 (b : Int)] 5)) = .ok (.string (bsB (leL 1 a ++ leL 1 b))) (w.alloc (.cells #[.int .u8 (a : Int), .int .u8 (b : Int)] 5)) := by
  obtain ⟨m, rfl, hm⟩ := u8_of ha
  obtain ⟨k, rfl, hk⟩ := u8_of hb
  have e : bsB (leL 1 m.toNat ++ leL 1 k.toNat) = ⟨#[m, k]⟩ := by
    show (⟨#[UInt8.ofNat m.toNat, UInt8.ofNat k.toNat]⟩ : ByteArray) = _
    rw [hm, hk]
  rw [e]
  refine run_bytes_string _ _ _ 5 Tryz.underlying90 Tryz.underlying5 Tryz.underlying9 _ 0 2 2 [m, k] rfl (fun i x hx => ?_)
  match i, hx with
  | 0, hx =>
    injection hx with hx
    subst hx
    exact cell_of (heap_alloc_new w _) rfl
  | 1, hx =>
    injection hx with hx
    subst hx
    exact cell_of (heap_alloc_new w _) rfl
  | _ + 2, hx => simp at hx
end Go.Proofs.YtddleckbbinllaaGreatDoor
