/- What is proved: great numbers compared. -/
import Derived.Test.YtfehiclbcebnoaaMLay2
import Derived.Test.YtfehiclbcebnoaaMRegion
import Derived.Laws.StructEq
import Derived.Test.YtfehiclbcebnoaaMSchFind2
import Derived.Test.YtfehiclbcebnoaaMScPts4
import Derived.Test.YtfehiclbcebnoaaMHeap
import Derived.Test.YtfehiclbcebnoaaProg
import Derived.Deep.Slices
import Derived.Deep.Strs
import Derived.ProofKit
import Derived.OpenShut
import Derived.ShutString
import Derived.ChangeOld
import Derived.Below
namespace Go.Proofs.Ytfehiclbcebnoaa
open Go.RowKit Go.Proofs.Heap Go.Proofs.Sch Go.Proofs.Wide

section
variable {P : Program} {ops : Array Oper}
theorem quiet_neq {Q : Act → Prop} {rest : List Oper} {a : Act} {o : Oper} {w : World} (hgd : o.guard = none) (t u : TypeId) (x y : Operand) (xs ys : Array Value) (b : Bool) (ho : o.op = .binOp .neq t x y u) (hx : a.eval x = .agg xs) (hy : a.eval y = .agg ys)
    (hm : P.eqGuardType P.depth t = false) (hl : (binOp .neq t (.agg xs) (.agg ys)).run P w = .ok (.bool b) w) (h : wpQuiet P ops (fun w' => w' = w) Q rest (a.put o.dst (.bool b))) : wpQuiet P ops (fun w' => w' = w) Q (o :: rest) a := by
  refine BigFrame.wpQuiet_want (by simp [Region.wanted, hgd]) fun K hK => ⟨.bool b, fun w' hw' => ?_, hK _ h⟩
  subst hw'
  have hg := fun (o1 o2 : Operand) => run_eqGuard_agg (P := P) (w := w') .neq t o1 o2 xs ys hm
  unfold Oper.quietAt execOp
  simp [ho, hx, hy, hl, hg]
  exact ⟨rfl, rfl⟩
end
theorem eq_wi (x y : WI) (w : World) : (Op.equalIn 10000 55 (WV x) (WV y)).run Try.prog w = .ok (x.neg == y.neg && ((x.hi : Int) == (y.hi : Int) && (x.lo : Int) == (y.lo : Int))) w := by
  have u1 := Try.underlying4
  have u2 := Try.underlying53
  have hS : Try.prog.underlying 55 = some (.struct (Try.prog.fieldsOf 55)) := by kernel_rfl
  have hp : Try.prog.stoodInHeld 55 = false := by kernel_rfl
  rw [show (10000 : Nat) = 9999 + 1 from rfl, run_equalIn_agg w 9999 55 _ _ hS hp]
  simp only [Program.fieldsOf, Try.underlying55]
  go_simp
  obtain ⟨n1, h1, l1⟩ := x
  obtain ⟨n2, h2, l2⟩ := y
  cases n1 <;> cases n2 <;> by_cases e1 : (h1 : Int) = (h2 : Int) <;> by_cases e2 : (l1 : Int) = (l2 : Int) <;> simp [e1, e2]
theorem neq_wi (x y : WI) (w : World) : (binOp .neq 55 (WV x) (WV y)).run Try.prog w = .ok (.bool (!(x.neg == y.neg && ((x.hi : Int) == (y.hi : Int) && (x.lo : Int) == (y.lo : Int))))) w := by
  rw [run_neq_struct, eq_wi]; rfl
theorem neq_same (x : WI) (w : World) : (binOp .neq 55 (WV x) (WV x)).run Try.prog w = .ok (.bool false) w := by
  rw [neq_wi]; simp
theorem neq_other {x y : WI} (h : x ≠ y) (w : World) : (binOp .neq 55 (WV x) (WV y)).run Try.prog w = .ok (.bool true) w := by
  rw [neq_wi]
  cases e : (x.neg == y.neg && ((x.hi : Int) == (y.hi : Int) && (x.lo : Int) == (y.lo : Int)))
  · rfl
  · exfalso
    simp only [Bool.and_eq_true, beq_iff_eq] at e
    obtain ⟨n1, h1, l1⟩ := x
    obtain ⟨n2, h2, l2⟩ := y
    obtain ⟨e1, e2, e3⟩ := e
    simp only at e1 e2 e3
    exact h (by rw [e1, show h1 = h2 by omega, show l1 = l2 by omega])
end Go.Proofs.Ytfehiclbcebnoaa

namespace Go.Proofs.Ytfehiclbcebnoaa
open Go.RowKit Go.Proofs.Heap Go.Proofs.Sch Go.Proofs.Wide

set_option maxRecDepth 20000 in
set_option maxHeartbeats 8000000 in
theorem sz_same (l : List Prt) (p q : Option Addr) (c d : Nat) (w : World) (hl : l.length ≤ 65536) (hv : ∀ x ∈ l, x.vals.length ≤ 65536) (hx : PP w w.heap.size p l) (hy : PP w w.heap.size q l) :
    Calls Try.prog 16 #[.slice p l.length c, .slice q l.length d] w fun r w' => r = .returned (.bool true) ∧ Keep (fun _ => False) w w' := by
  have HX := hid hx; have HY := hid hy; have HV := hid hv
  clear hx hy hv
  have g0 : ((l.length : Int) != (l.length : Int)) = false := by simp
  have g0' : (l.length != l.length) = false := by simp
  go_enter Try.func16, Try.ntmps16
  go_wp2_with fail
  clear g0 g0'
  go_loopw [5, 6] (fun i _ wr => ∃ k : Nat, k ≤ l.length ∧ i = iV k ∧ Keep (fun _ => False) w wr) (fun i _ _ => l.length + 1 - (RowKit.intOf i).toNat)
  case atStart => exact ⟨0, Nat.zero_le _, rfl, Keep.refl _ _⟩
  case round =>
    obtain ⟨k, hk, rfl, hkr⟩ := hrel
    have HKR := hid hkr
    clear hkr
    by_cases hlt : k < l.length
    · obtain ⟨x, hxk⟩ : ∃ x, l[k]? = some x := ⟨l[k], by simp [hlt]⟩
      obtain ⟨b1, o1, q1, c1, rfl, hb1, x0, x1, _, hx1⟩ := PP.at (PP.low HX.out (Low.keep0 HKR.out.drew)) hxk
      obtain ⟨b2, o2, q2, c2, rfl, hb2, y0, y1, _, hy1⟩ := PP.at (PP.low HY.out (Low.keep0 HKR.out.drew)) hxk
      have hin : (0 : Int) ≤ (k : Int) ∧ (k : Int) < (l.length : Int) := ⟨by omega, by omega⟩
      have HXV := hid (HV.out x (List.mem_of_getElem? hxk))
      have HX1 := hid hx1; have HY1 := hid hy1
      have g1 : ((x.vals.length : Int) != (x.vals.length : Int)) = false := by simp
      have g2 : (x.comp != x.comp) = false := by simp
      have HX0 := hid x1; have HY0 := hid y1
      clear hxk hx1 hy1
      go_upto_region 6 with fail
      refine Plan.wp_region_reads (by as_aux_lemma => kernel_rfl) (by as_aux_lemma => kernel_rfl) ?_
      repeat (go_big_quiet_step (fail))
      refine wpQuiet_nil ?_
      clear x0 x1 y0 y1
      have HKD := hid HKR.out.drew
      generalize wr.drew = wd at *
      obtain ⟨vs, hvs⟩ : ∃ vs, x.vals = vs := ⟨_, rfl⟩
      rw [hvs] at HXV HX1 HY1 HX0 HY0 g1 ⊢
      obtain ⟨n, hn⟩ : ∃ n, vs.length = n := ⟨_, rfl⟩
      have HN := hid hn
      have HX0' : Hid (wd.cell? ⟨b1, o1 + k * 2 + 1, none⟩ = some (.slice q1 n c1)) := hid (by rw [← hn]; exact HX0.out)
      have HY0' : Hid (wd.cell? ⟨b2, o2 + k * 2 + 1, none⟩ = some (.slice q2 n c2)) := hid (by rw [← hn]; exact HY0.out)
      rw [hn] at g1 HXV ⊢
      clear hn hvs HX0 HY0
      have hnn := HXV.out
      go_wp2_with fail
      clear g1 g2
      go_loopw [6] (fun i wy => ∃ j : Nat, j ≤ n ∧ i = iV j ∧ Keep (fun _ => False) wd wy) (fun i _ => n + 1 - (RowKit.intOf i).toNat)
      case atStart => exact ⟨0, Nat.zero_le _, rfl, Keep.refl _ _⟩
      case round =>
        obtain ⟨j, hj, rfl, hky⟩ := hrel
        have HKY := hid hky
        clear hky
        have HB1 : Hid (b1 < wd.heap.size) := hid (World.block_lt_of_cell? wd _ HX0'.out)
        have HB2 : Hid (b2 < wd.heap.size) := hid (World.block_lt_of_cell? wd _ HY0'.out)
        have x1 := ((Low.keep0 HKY.out).cell (o := o1 + k * 2 + 1) HB1.out).trans HX0'.out
        by_cases hjt : j < n
        · obtain ⟨y, hyj⟩ : ∃ y, vs[j]? = some y := ⟨vs[j]'(by rw [HN.out]; exact hjt), by simp [HN.out, hjt]⟩
          obtain ⟨b3, o3, rfl, hb3, u0, u1, u2⟩ := XP.at (XP.low HX1.out (Low.of_keep HKY.out.drew HKD.out.size (fun _ h => h.elim))) hyj
          obtain ⟨b4, o4, rfl, hb4, v0, v1, v2⟩ := XP.at (XP.low HY1.out (Low.of_keep HKY.out.drew HKD.out.size (fun _ h => h.elim))) hyj
          have hin2 : (0 : Int) ≤ (j : Int) ∧ (j : Int) < (n : Int) := ⟨by omega, by omega⟩
          have hcmp := neq_same y wr.drew
          clear hyj
          go_upto_region 11 with fail
          clear x1
          have x1 := ((Low.keep0 HKY.out.drew).cell (o := o1 + k * 2 + 1) HB1.out).trans HX0'.out
          have y1 := ((Low.keep0 HKY.out.drew).cell (o := o2 + k * 2 + 1) HB2.out).trans HY0'.out
          refine Plan.wp_region_reads (by as_aux_lemma => kernel_rfl) (by as_aux_lemma => kernel_rfl) ?_
          repeat (go_big_quiet_step (fail))
          refine wpQuiet_nil ?_
          clear x1 y1 u0 u1 u2 v0 v1 v2 hcmp
          go_wp2
          go_roundw
          case rel => exact ⟨j + 1, by omega, by go_num, HKY.out.drew⟩
          case measure => simp [RowKit.intOf]; omega
        · obtain rfl : j = n := by omega
          have g1 : decide ((j : Int) < (j : Int)) = false := decide_eq_false (by omega)
          go_wp2
          go_roundw
          case rel => exact ⟨k + 1, by omega, by go_num, HKD.out.trans HKY.out⟩
          case measure => simp [RowKit.intOf]; omega
    · obtain rfl : k = l.length := by omega
      go_wp2
      go_ret
      exact ⟨rfl, HKR.out⟩
end Go.Proofs.Ytfehiclbcebnoaa

namespace Go.Proofs.Ytfehiclbcebnoaa
open Go.RowKit Go.Proofs.Heap Go.Proofs.Sch Go.Proofs.Wide

theorem encP_size {v : Int} {cs : List Cmp} {l : List Prt} (h : prtsC v cs l = 0) (hl : l.length ≤ 255) : (encP v cs l).size ≤ 65537 := by
  have e : encP v cs l = bsB (prtsL cs l) := if_pos h
  have h4 := flat_le (prtL cs) 257 (l := l) (fun x hx => prtL_len (partsC_all [] l (prtsC_ok h).2.1 x hx))
  rw [e, bs_size]
  unfold prtsL
  simp only [List.length_append, leL_len]
  have : l.length * 257 ≤ 255 * 257 := Nat.mul_le_mul_right _ hl
  omega
theorem vals_le {v : Int} {cs : List Cmp} {l : List Prt} (h : prtsC v cs l = 0) : ∀ x ∈ l, x.vals.length ≤ 65536 := fun x hx => by
  obtain ⟨c, _, _, _, _, hz⟩ := partC_find (partsC_all [] l (prtsC_ok h).2.1 x hx)
  obtain ⟨h0, h1, _⟩ := fitC_zero hz
  have h2 := layC_zero h0
  have h3 := sumN_le c.fs h2.2
  omega

set_option maxRecDepth 20000 in
set_option maxHeartbeats 32000000 in
theorem sc_rows (v : Int) (cs : List Cmp) (pa : Option Addr) (ca : Nat) (l : List Prt) (q : Option Addr) (qc : Nat) (m : UInt8) (w : World) (hA : CP w w.heap.size pa cs) (hqc : l.length ≤ qc) (hP : PP w w.heap.size q l) (hF : ∀ x ∈ l, ∀ y ∈ x.vals, y.fit) :
    Calls Try.prog 4 #[.agg #[.int .i64 v, .slice pa cs.length ca], .slice q l.length qc, .int .u8 (m.toNat : Int)] w fun r w' => r = .returned (.bool true) ∧ Keep (fun _ => False) w w' := by
  obtain ⟨w1, hw1, hb1, hs1, hk1⟩ := box1 w #[.int .i64 v, .slice pa cs.length ca] 24
  have HK1 := hid hk1; have HA1 := hid hb1
  have HIA := hid (fun (wy : World) (hk : Keep (fun _ => False) w wy) => CP.mono (CP.low hA (Low.keep0 hk)) hk.size)
  have HIP := hid (fun (wy : World) (hk : Keep (fun _ => False) w wy) => PP.mono (PP.low hP (Low.keep0 hk)) hk.size)
  have HFT := hid hF; have HQC := hid hqc
  clear hb1 hs1 hk1 hA hP hF hqc
  go_enter Try.func4, Try.ntmps4
  go_upto_region 1 with fail
  rw [← hw1]
  clear hw1
  generalize w.heap.size = aB at *
  go_wp2_with fail
  refine (sc_awake w1).mono ?_
  rintro r w2 ⟨rfl, hk⟩
  have HA2 := hid (hk.get HA1.out id); have HK2 := hid (HK1.out.trans hk)
  clear hk
  have a0 := cell_of HA2.out (i := 0) (by rfl)
  have a1 := cell_of HA2.out (i := 1) (by rfl)
  go_wp2_with fail
  refine (sz_great v cs pa ca w2 (HIA.out w2 HK2.out)).mono ?_
  rintro r w3 ⟨rfl, hk⟩
  have HA3 := hid (hk.get HA2.out id); have HK3 := hid (HK2.out.trans hk)
  clear hk
  clear a0 a1
  by_cases ga : FairZS cs
  rotate_left
  · rw [decide_eq_false ga]
    clear ga
    go_wp2
    go_ret
    exact ⟨rfl, HK3.out⟩
  rw [decide_eq_true ga]
  have HSA := hid ga.small
  clear ga
  by_cases hl : 12 < l.length
  · have g1 : decide ((12 : Int) < (l.length : Int)) = true := decide_eq_true (by omega)
    have g2 : decide (12 < l.length) = true := decide_eq_true hl
    go_wp2
    go_ret
    exact ⟨rfl, HK3.out⟩
  have g1 : decide ((12 : Int) < (l.length : Int)) = false := decide_eq_false (by omega)
  have g2 : decide (12 < l.length) = false := decide_eq_false hl
  have HLL : Hid (l.length ≤ 12) := hid (by omega)
  clear hl
  have a0 := cell_of HA3.out (i := 0) (by rfl)
  have a1 := cell_of HA3.out (i := 1) (by rfl)
  go_wp2_with fail
  refine (sc_encodeParts v cs pa ca l q qc w3 HSA.out (by have := HLL.out; omega) HQC.out HFT.out (HIA.out w3 HK3.out) (HIP.out w3 HK3.out)).mono ?_
  rintro r w4 ⟨rfl, hk⟩
  have HA4 := hid (hk.get HA3.out id); have HK4 := hid (HK3.out.trans hk)
  clear hk g1 g2
  clear a0 a1
  by_cases hz : prtsC v cs l = 0
  rotate_left
  · have he : encP v cs l = ⟨#[]⟩ := if_neg hz
    rw [he]
    obtain ⟨C, hC⟩ : ∃ C, prtsC v cs l = C := ⟨_, rfl⟩
    rw [hC] at hz ⊢
    have g1 : ((C : Int) != 0) = true := by rw [bne_iff_ne]; omega
    have g2 : (C != 0) = true := by rw [bne_iff_ne]; exact hz
    clear he hC hz
    go_wp2
    go_ret
    exact ⟨rfl, HK4.out⟩
  have HM := hid hz
  rw [hz]
  clear hz
  have hsz := encP_size HM.out (by have := HLL.out; omega)
  have HDA := hid (fun wy (hk : Keep (fun _ => False) w wy) => sc_decodeParts v cs pa ca (encP v cs l) wy HSA.out (by omega) (HIA.out wy hk))
  have HS1 : Hid (decPL v cs (encP v cs l) = l ∧ decPE v cs (encP v cs l) = 0) := hid (by
    have e : encP v cs l = bsB (prtsL cs l) := if_pos HM.out
    rw [e]; exact (goodP_enc HM.out (by have := HLL.out; omega)).2)
  have HS2 := hid (decP_more HM.out (show l.length < 256 by have := HLL.out; omega) m)
  have HS3 := hid (decP_less HM.out (show l.length < 256 by have := HLL.out; omega))
  have HS4 := hid hsz
  have HS5 : Hid (1 ≤ (encP v cs l).size) := hid (by
    have e : encP v cs l = bsB (prtsL cs l) := if_pos HM.out
    rw [e, bs_size]
    unfold prtsL
    simp only [List.length_append, leL_len]; omega)
  have HVL := hid (vals_le HM.out)
  clear hsz
  generalize encP v cs l = eb at *
  obtain ⟨n, hn⟩ : ∃ n, eb.size = n + 1 := ⟨eb.size - 1, by have := HS5.out; omega⟩
  have HN := hid hn
  rw [show eb.size - 1 = n by omega] at HS3
  clear hn
  have a0 := cell_of HA4.out (i := 0) (by rfl)
  have a1 := cell_of HA4.out (i := 1) (by rfl)
  go_wp2_with fail
  refine (HDA.out w4 HK4.out).mono ?_
  rintro r w5 ⟨p5, c5, rfl, hpp, hpl, hk⟩
  rw [HS1.out.1] at hpp hpl
  rw [HS1.out.1, HS1.out.2]
  have HA5 := hid (hk.get HA4.out id); have HK5 := hid (HK4.out.trans hk); have HPP := hid hpp
  clear hk hpp hpl HDA
  clear a0 a1
  have a0 := cell_of HA5.out (i := 0) (by rfl)
  have a1 := cell_of HA5.out (i := 1) (by rfl)
  have hcv := one_byteZ w5 m
  obtain ⟨w6, hw6, hb6, hs6, hk6⟩ := box1 w5 #[.int .u8 (m.toNat : Int)] 5
  have HA6 := hid (hk6.get HA5.out id); have HK6 := hid (HK5.out.trans hk6); have HF6 := hid hk6
  clear hb6 hs6 hk6
  have hz1 : ¬ (9223372036854775807 < eb.size + 1) := by have := HS4.out; omega
  have HDM := hid (fun wy (hk : Keep (fun _ => False) w wy) => sc_decodeParts v cs pa ca (eb ++ ⟨#[m]⟩) wy HSA.out (by rw [ByteArray.size_append]; have := HS4.out; have h : (⟨#[m]⟩ : ByteArray).size = 1 := rfl; omega) (HIA.out wy hk))
  generalize hbx : eb ++ ⟨#[m]⟩ = bx at *
  go_wp2_with fail
  rw [← hw6]
  clear hw6 hcv hz1 hbx
  refine (HDM.out w6 HK6.out).mono ?_
  rintro r w7 ⟨p7, c7, rfl, _, _, hk⟩
  rw [HS2.out]
  have HA7 := hid (hk.get HA6.out id); have HK7 := hid (HK6.out.trans hk); have HF7 := hid (HF6.out.trans hk)
  clear hk HDM
  clear a0 a1
  generalize (decPL v cs bx).length = yl at *
  go_upto_region 10 with fail
  refine Plan.wp_region_pl [(false, 0, []), (false, 1, []), (false, 2, []), (false, 3, []), (false, 4, []), (false, 5, []), (true, 6, []), (false, 7, []), (false, 8, []), (false, 9, []), (false, 10, []), (false, 11, [])] (by as_aux_lemma => kernel_rfl) (by as_aux_lemma => kernel_rfl) ?_
  have HKd := hid HK7.out.drew; have HFd := hid HF7.out.drew
  have HDL := hid (sc_decodeParts v cs pa ca (eb.extract 0 n) w7.drew HSA.out (by rw [ByteArray.size_extract]; have := HS4.out; omega) (HIA.out w7.drew HKd.out))
  have hn := HN.out
  have hnb : n ≤ 9223372036854775806 := by have := HS4.out; omega
  have hwn : wrap64 (n : Int) = (n : Int) := by unfold wrap64; omega
  have hin : (0 : Int) ≤ (n : Int) ∧ (n : Int) ≤ (n : Int) + 1 := ⟨by omega, by omega⟩
  have HAd : Hid (w7.drew.heap[aB]? = _) := HA7
  generalize w7.drew = wd at *
  have a0 := cell_of HAd.out (i := 0) (by rfl)
  have a1 := cell_of HAd.out (i := 1) (by rfl)
  iterate 6 (refine Plan.pl_st rfl ?_; go_big_quiet_step (fail); refine wpQuiet_nil ?_)
  refine Plan.pl_ac rfl ?_
  go_wp2_with fail
  refine HDL.out.mono ?_
  rintro r w8 ⟨p8, c8, rfl, _, _, hk⟩
  rw [HS3.out]
  have HK8 := hid (HKd.out.trans hk); have HF8 := hid (HFd.out.trans hk)
  clear hk HDL hn hnb hwn hin a0 a1
  go_wp2
  refine Plan.plQ_mk Plan.chk_end ?_
  iterate 5 (refine Plan.pl_st rfl ?_; go_big_quiet_step (fail); refine wpQuiet_nil ?_)
  refine Plan.pl_end ?_
  generalize (decPL v cs (eb.extract 0 n)).length = zl at *
  have HSM := hid (sz_same l p5 q c5 qc w8 (by have := HLL.out; omega) HVL.out (PP.mono (PP.low HPP.out (Low.keep0 HF8.out)) HF8.out.size) (HIP.out w8 HK8.out))
  go_wp2_with fail
  refine HSM.out.mono ?_
  rintro r w9 ⟨rfl, hk⟩
  have HK9 := hid (HK8.out.trans hk)
  clear hk
  go_wp2
  go_ret
  exact ⟨rfl, HK9.out⟩
end Go.Proofs.Ytfehiclbcebnoaa

namespace Go.Proofs.Ytfehiclbcebnoaa
open Go.ChangeShapes Go.WideShapes Go.ChangeAt Go.RowKit Go.Proofs.Heap Go.Proofs.Sch

section
variable {H : Type} {enc : TypeId × Value → H} {W : World}

theorem addr_add (b off i : Nat) : (⟨b, off, none⟩ : Addr).add i = ⟨b, off + i, none⟩ := by unfold Addr.add; split <;> simp_all

/-- A row of things that a law is handed. -/
theorem open_row {α : Type} {z : Nat} {t e : TypeId} (ht : Try.prog.underlying t = some (.slice e)) (hsz : Try.prog.cellsOf e = z) (at_ : World → Nat → Nat → α → Prop)
    (hel : ∀ (a : Addr) (n : Nat) (cs : List Value) (D : DataW H × List MemPlace), W.cells? 0 a z = some cs → DataW.trod enc Try.prog W 0 (fun _ => true) true n e cs = some D → a.spot = none ∧ a.block < W.heap.size ∧ ∃ x : α, at_ W a.block a.off x)
    {fuel : Nat} {cs : List Value} {x : DataW H × List MemPlace} (h : DataW.trod enc Try.prog W 0 (fun _ => true) true fuel t cs = some x) :
    ∃ (p : Option Addr) (c : Nat) (l : List α), cs = [.slice p l.length c] ∧ l.length ≤ c ∧ RowP z at_ W W.heap.size p l := by
  rcases Go.Deep.open_slice ht h with ⟨hcs, _⟩ | ⟨a, len, cap, m, n, D, Pl, hcs, _, hl, hm, hz', _, hcell⟩
  · exact ⟨none, 0, [], hcs, Nat.le_refl _, .inl rfl⟩
  · have hmc : m = cap := by simpa using hz'
    subst hmc
    rw [hsz] at hcell
    by_cases hl0 : len = 0
    · subst hl0
      exact ⟨some a, m, [], hcs, Nat.zero_le _, .inl rfl⟩
    · obtain ⟨b, off, spot⟩ := a
      have hblk : spot = none ∧ b < W.heap.size := by
        obtain ⟨cs', hc1, hc2⟩ := hcell 0 (by omega)
        obtain ⟨h1, h2, _⟩ := hel _ _ _ _ hc1 hc2
        refine ⟨?_, by simpa [Addr.add] using h2⟩
        simpa [Addr.add] using h1
      obtain ⟨rfl, hb⟩ := hblk
      have key : ∀ k, k ≤ len → ∃ l : List α, l.length = k ∧ ∀ i y, l[i]? = some y → at_ W b (off + i * z) y := by
        intro k
        induction k with
        | zero => exact fun _ => ⟨[], rfl, fun i y hy => by simp at hy⟩
        | succ k ih =>
          intro hk
          obtain ⟨l, hll, hla⟩ := ih (by omega)
          obtain ⟨cs', hc1, hc2⟩ := hcell k (by omega)
          obtain ⟨_, _, y, hy⟩ := hel _ _ _ _ hc1 hc2
          rw [addr_add] at hy
          refine ⟨l ++ [y], by simp [hll], fun i u hu => ?_⟩
          by_cases hik : i < k
          · rw [List.getElem?_append_left (by omega)] at hu
            exact hla i u hu
          · rw [List.getElem?_append_right (by omega)] at hu
            have : i = k := by
              have := (List.getElem?_eq_some_iff.1 hu).1
              simp at this
              omega
            subst this
            simp [hll] at hu
            subst hu
            exact hy
      obtain ⟨l, hll, hla⟩ := key len (Nat.le_refl _)
      subst hll
      exact ⟨_, m, l, hcs, hl, .inr ⟨b, off, rfl, hb, hla⟩⟩

theorem spot_of {a : Addr} {v : Value} (h : W.cell? (a.add 0) = some v) : a.spot = none ∧ a.block < W.heap.size := by
  obtain ⟨b, off, spot⟩ := a
  have h1 : spot = none := by simpa [Addr.add] using World.cell?_spot h
  subst h1
  rw [addr_add] at h
  exact ⟨rfl, World.block_lt_of_cell? W _ h⟩

set_option maxRecDepth 100000 in
theorem open_field (a : Addr) (n : Nat) (cs : List Value) (D : DataW H × List MemPlace) (hc : W.cells? 0 a 3 = some cs) (h : DataW.trod enc Try.prog W 0 (fun _ => true) true n 49 cs = some D) :
    a.spot = none ∧ a.block < W.heap.size ∧ ∃ x : Fld, FldAt W a.block a.off x := by
  have hs_int : Try.prog.cellsOf 3 = 1 := by kernel_rfl
  have hs_string : Try.prog.cellsOf 9 = 1 := by kernel_rfl
  have hs_kind : Try.prog.cellsOf 47 = 1 := by kernel_rfl
  obtain ⟨_, hlen, hat⟩ := World.cells?_some hc
  obtain ⟨y0, y1, y2, n', _, _, t0, t1, t2⟩ := Go.Deep.trod_struct3 Try.underlying49 h
  match cs, hlen with
  | [u0, u1, u2], _ =>
    have g0 := hat 0 (by omega)
    have g1 := hat 1 (by omega)
    have g2 := hat 2 (by omega)
    simp only [hs_int, hs_string, hs_kind, List.drop, List.take] at t0 t1 t2
    obtain ⟨K0, eK0, _, _⟩ := DataW.trod_string Try.underlying9 t0
    obtain ⟨K1, eK1, _, _⟩ := DataW.trod_int Try.underlying47 t1
    obtain ⟨K2, eK2, _, _⟩ := DataW.trod_int Try.underlying3 t2
    simp at eK0 eK1 eK2
    subst eK0; subst eK1; subst eK2
    obtain ⟨h1, h2⟩ := spot_of g0
    obtain ⟨b, off, spot⟩ := a
    simp only at h1 h2
    subst h1
    rw [addr_add] at g0 g1 g2
    exact ⟨rfl, h2, ⟨K0, K1, K2⟩, g0, g1, g2⟩

set_option maxRecDepth 100000 in
theorem open_fields {fuel : Nat} {cs : List Value} {x : DataW H × List MemPlace} (h : DataW.trod enc Try.prog W 0 (fun _ => true) true fuel 50 cs = some x) :
    ∃ (p : Option Addr) (c : Nat) (l : List Fld), cs = [.slice p l.length c] ∧ l.length ≤ c ∧ FP W W.heap.size p l :=
  open_row Try.underlying50 (by kernel_rfl) FldAt (fun a n cs D hc h => open_field a n cs D hc h) h

set_option maxRecDepth 100000 in
theorem open_comp (a : Addr) (n : Nat) (cs : List Value) (D : DataW H × List MemPlace) (hc : W.cells? 0 a 3 = some cs) (h : DataW.trod enc Try.prog W 0 (fun _ => true) true n 52 cs = some D) :
    a.spot = none ∧ a.block < W.heap.size ∧ ∃ x : Cmp, CmpAt W.heap.size W a.block a.off x := by
  have hs_int : Try.prog.cellsOf 3 = 1 := by kernel_rfl
  have hs_string : Try.prog.cellsOf 9 = 1 := by kernel_rfl
  have hs_fields : Try.prog.cellsOf 50 = 1 := by kernel_rfl
  obtain ⟨_, hlen, hat⟩ := World.cells?_some hc
  obtain ⟨y0, y1, y2, n', _, _, t0, t1, t2⟩ := Go.Deep.trod_struct3 Try.underlying52 h
  match cs, hlen with
  | [u0, u1, u2], _ =>
    have g0 := hat 0 (by omega)
    have g1 := hat 1 (by omega)
    have g2 := hat 2 (by omega)
    simp only [hs_int, hs_string, hs_fields, List.drop, List.take] at t0 t1 t2
    obtain ⟨K0, eK0, _, _⟩ := DataW.trod_int Try.underlying3 t0
    obtain ⟨K1, eK1, _, _⟩ := DataW.trod_string Try.underlying9 t1
    obtain ⟨p, c, l, eK2, hlc, hfp⟩ := open_fields t2
    simp at eK0 eK1 eK2
    subst eK0; subst eK1; subst eK2
    obtain ⟨h1, h2⟩ := spot_of g0
    obtain ⟨b, off, spot⟩ := a
    simp only at h1 h2
    subst h1
    rw [addr_add] at g0 g1 g2
    exact ⟨rfl, h2, ⟨K0, K1, l⟩, g0, g1, p, c, g2, hlc, hfp⟩

set_option maxRecDepth 100000 in
theorem open_comps {fuel : Nat} {cs : List Value} {x : DataW H × List MemPlace} (h : DataW.trod enc Try.prog W 0 (fun _ => true) true fuel 22 cs = some x) :
    ∃ (p : Option Addr) (c : Nat) (l : List Cmp), cs = [.slice p l.length c] ∧ l.length ≤ c ∧ CP W W.heap.size p l :=
  open_row Try.underlying22 (by kernel_rfl) (CmpAt W.heap.size) (fun a n cs D hc h => open_comp a n cs D hc h) h

set_option maxRecDepth 100000 in
/-- A schema that a law is handed. -/
theorem open_schema {v : Value} {r : Reach} {b : Nat} (hv : Value.okWide Try.prog W r b 24 v) {fuel : Nat} {x : DataW H × List MemPlace} (h : DataW.trod enc Try.prog W 0 (fun _ => true) true fuel 24 v.cells.toList = some x) :
    ∃ (k : Int) (p : Option Addr) (c : Nat) (l : List Cmp), v = .agg #[.int .i64 k, .slice p l.length c] ∧ l.length ≤ c ∧ CP W W.heap.size p l := by
  have hs_int : Try.prog.cellsOf 3 = 1 := by kernel_rfl
  have hs_comps : Try.prog.cellsOf 22 = 1 := by kernel_rfl
  have hs : Try.prog.cellsOf 24 = 2 := by kernel_rfl
  unfold Value.okWide at hv
  rw [Try.underlying24] at hv
  obtain ⟨cs, rfl, hsz, _⟩ := hv
  rw [hs] at hsz
  obtain ⟨⟨u0, u1, rfl⟩⟩ : Nonempty (∃ u0 u1, cs = #[u0, u1]) := by
    obtain ⟨l⟩ := cs
    match l, hsz with
    | [u0, u1], _ => exact ⟨u0, u1, rfl⟩
  obtain ⟨y0, y1, n', _, _, t0, t1⟩ := trod_struct2 Try.underlying24 h
  simp only [Value.cells, hs_int, hs_comps, List.drop, List.take] at t0 t1
  obtain ⟨K0, eK0, _, _⟩ := DataW.trod_int Try.underlying3 t0
  obtain ⟨p, c, l, eK1, hlc, hcp⟩ := open_comps t1
  simp at eK0 eK1
  subst eK0; subst eK1
  exact ⟨K0, p, c, l, rfl, hlc, hcp⟩
end
end Go.Proofs.Ytfehiclbcebnoaa

namespace Go.Proofs.Ytfehiclbcebnoaa
open Go.RowKit Go.Proofs.Heap Go.Proofs.Sch

/-- A byte that a law is handed. -/
theorem wf_u8C {K : Int} (h : (Lit.int .u8 K).wf = true) : ∃ m : UInt8, K = (m.toNat : Int) := by
  have h : IntKind.u8.min ≤ K ∧ K ≤ IntKind.u8.max := by simpa [Lit.wf] using h
  have h1 : IntKind.u8.min = 0 := by decide
  have h2 : IntKind.u8.max = 255 := by decide
  refine ⟨UInt8.ofNat K.toNat, ?_⟩
  rw [UInt8.toNat_ofNat']
  omega
theorem back_true (v : Int) (pa : Option Addr) (ca : Nat) (cs : List Cmp) (u : Int) (pb : Option Addr) (cb : Nat) (ds : List Cmp) (bytes : ByteArray) (m : UInt8) (w : World) (hA : CP w w.heap.size pa cs) (hB : CP w w.heap.size pb ds) (hbs : bytes.size ≤ maxLen) :
    Calls Try.prog 5 #[.agg #[.int .i64 v, .slice pa cs.length ca], .agg #[.int .i64 u, .slice pb ds.length cb], .string bytes, .int .u8 (m.toNat : Int)] w fun e w' => e = .returned (.bool true) ∧ Below w.heap.size w w' :=
  (sc_back v u cs ds pa ca pb cb bytes m w hA hB (by unfold maxLen at hbs; omega)).mono fun _ _ h => ⟨h.1, h.2.below⟩
end Go.Proofs.Ytfehiclbcebnoaa

namespace Go.Proofs.Ytfehiclbcebnoaa
open Go.ChangeShapes Go.WideShapes Go.ChangeAt Go.RowKit Go.Proofs.Heap Go.Proofs.Sch Go.Proofs.Wide

section
variable {H : Type} {enc : TypeId × Value → H} {W : World}

theorem u64_wf {z : Int} (h : (Lit.int .u64 z).wf = true) : 0 ≤ z ∧ z < 18446744073709551616 := by
  have h : IntKind.u64.min ≤ z ∧ z ≤ IntKind.u64.max := by simpa [Lit.wf] using h
  have h1 : IntKind.u64.min = 0 := by decide
  have h2 : IntKind.u64.max = 18446744073709551615 := by decide
  omega

def IntFit (w : World) (b o : Nat) (x : WI) : Prop := IntAt w b o x ∧ x.fit

set_option maxRecDepth 100000 in
theorem open_wide (a : Addr) (n : Nat) (cs : List Value) (D : DataW H × List MemPlace) (hc : W.cells? 0 a 3 = some cs) (h : DataW.trod enc Try.prog W 0 (fun _ => true) true n 55 cs = some D) :
    a.spot = none ∧ a.block < W.heap.size ∧ ∃ x : WI, IntFit W a.block a.off x := by
  have hs_bool : Try.prog.cellsOf 4 = 1 := by kernel_rfl
  have hs_u64 : Try.prog.cellsOf 53 = 1 := by kernel_rfl
  obtain ⟨_, hlen, hat⟩ := World.cells?_some hc
  obtain ⟨y0, y1, y2, n', _, _, t0, t1, t2⟩ := Go.Deep.trod_struct3 Try.underlying55 h
  match cs, hlen with
  | [u0, u1, u2], _ =>
    have g0 := hat 0 (by omega)
    have g1 := hat 1 (by omega)
    have g2 := hat 2 (by omega)
    simp only [hs_bool, hs_u64, List.drop, List.take] at t0 t1 t2
    obtain ⟨K0, eK0, _⟩ := DataW.trod_bool Try.underlying4 t0
    obtain ⟨K1, eK1, _, w1⟩ := DataW.trod_int Try.underlying53 t1
    obtain ⟨K2, eK2, _, w2⟩ := DataW.trod_int Try.underlying53 t2
    simp at eK0 eK1 eK2
    subst eK0; subst eK1; subst eK2
    have b1 := u64_wf w1
    have b2 := u64_wf w2
    obtain ⟨N1, rfl⟩ := Int.eq_ofNat_of_zero_le b1.1
    obtain ⟨N2, rfl⟩ := Int.eq_ofNat_of_zero_le b2.1
    obtain ⟨h1, h2⟩ := spot_of g0
    obtain ⟨b, off, spot⟩ := a
    simp only at h1 h2
    subst h1
    rw [addr_add] at g0 g1 g2
    exact ⟨rfl, h2, ⟨K0, N1, N2⟩, ⟨g0, g1, g2⟩, by unfold WI.fit; simp only; omega⟩

theorem open_wides {fuel : Nat} {cs : List Value} {x : DataW H × List MemPlace} (h : DataW.trod enc Try.prog W 0 (fun _ => true) true fuel 57 cs = some x) :
    ∃ (p : Option Addr) (c : Nat) (l : List WI), cs = [.slice p l.length c] ∧ l.length ≤ c ∧ XP W W.heap.size p l ∧ ∀ y ∈ l, y.fit := by
  obtain ⟨p, c, l, h1, h2, h3⟩ := open_row Try.underlying57 (by kernel_rfl) IntFit (fun a n cs D hc h => open_wide a n cs D hc h) h
  refine ⟨p, c, l, h1, h2, RowP.imp h3 (Nat.le_refl _) (fun _ _ _ _ h => h.1), fun y hy => ?_⟩
  rcases h3 with rfl | ⟨b, off, _, _, hc⟩
  · cases hy
  · obtain ⟨i, hi⟩ := List.getElem?_of_mem hy
    exact (hc i y hi).2

def PrtFit (B : Nat) (w : World) (b o : Nat) (x : Prt) : Prop := PrtAt B w b o x ∧ ∀ y ∈ x.vals, y.fit

set_option maxRecDepth 100000 in
theorem open_part (a : Addr) (n : Nat) (cs : List Value) (D : DataW H × List MemPlace) (hc : W.cells? 0 a 2 = some cs) (h : DataW.trod enc Try.prog W 0 (fun _ => true) true n 59 cs = some D) :
    a.spot = none ∧ a.block < W.heap.size ∧ ∃ x : Prt, PrtFit W.heap.size W a.block a.off x := by
  have hs_int : Try.prog.cellsOf 3 = 1 := by kernel_rfl
  have hs_ints : Try.prog.cellsOf 57 = 1 := by kernel_rfl
  obtain ⟨_, hlen, hat⟩ := World.cells?_some hc
  obtain ⟨y0, y1, n', _, _, t0, t1⟩ := trod_struct2 Try.underlying59 h
  match cs, hlen with
  | [u0, u1], _ =>
    have g0 := hat 0 (by omega)
    have g1 := hat 1 (by omega)
    simp only [hs_int, hs_ints, List.drop, List.take] at t0 t1
    obtain ⟨K0, eK0, _, _⟩ := DataW.trod_int Try.underlying3 t0
    obtain ⟨p, c, l, eK1, hlc, hxp, hxf⟩ := open_wides t1
    simp at eK0 eK1
    subst eK0; subst eK1
    obtain ⟨h1, h2⟩ := spot_of g0
    obtain ⟨b, off, spot⟩ := a
    simp only at h1 h2
    subst h1
    rw [addr_add] at g0 g1
    exact ⟨rfl, h2, ⟨K0, l⟩, ⟨g0, p, c, g1, hlc, hxp⟩, hxf⟩

theorem open_parts {fuel : Nat} {cs : List Value} {x : DataW H × List MemPlace} (h : DataW.trod enc Try.prog W 0 (fun _ => true) true fuel 38 cs = some x) :
    ∃ (p : Option Addr) (c : Nat) (l : List Prt), cs = [.slice p l.length c] ∧ l.length ≤ c ∧ PP W W.heap.size p l ∧ ∀ x ∈ l, ∀ y ∈ x.vals, y.fit := by
  obtain ⟨p, c, l, h1, h2, h3⟩ := open_row Try.underlying38 (by kernel_rfl) (PrtFit W.heap.size) (fun a n cs D hc h => open_part a n cs D hc h) h
  refine ⟨p, c, l, h1, h2, RowP.imp h3 (Nat.le_refl _) (fun _ _ _ _ h => h.1), fun y hy => ?_⟩
  rcases h3 with rfl | ⟨b, off, _, _, hc⟩
  · cases hy
  · obtain ⟨i, hi⟩ := List.getElem?_of_mem hy
    exact (hc i y hi).2

set_option maxRecDepth 100000 in
/-- Parts that a law is handed. -/
theorem open_parts_of {v : Value} {r : Reach} {b : Nat} (hv : Value.okWide Try.prog W r b 38 v) {fuel : Nat} {x : DataW H × List MemPlace} (h : DataW.trod enc Try.prog W 0 (fun _ => true) true fuel 38 v.cells.toList = some x) :
    ∃ (p : Option Addr) (c : Nat) (l : List Prt), v = .slice p l.length c ∧ l.length ≤ c ∧ PP W W.heap.size p l ∧ ∀ x ∈ l, ∀ y ∈ x.vals, y.fit := by
  obtain ⟨a, n, k, rfl⟩ := okWide_slice Try.underlying38 hv
  obtain ⟨p, c, l, h1, h2⟩ := open_parts h
  simp [Value.cells] at h1
  obtain ⟨rfl, rfl, rfl⟩ := h1
  exact ⟨_, _, l, rfl, h2⟩
end
end Go.Proofs.Ytfehiclbcebnoaa

namespace Go.Proofs.Ytfehiclbcebnoaa
open Go.RowKit Go.Proofs.Heap Go.Proofs.Sch

theorem rows_true (v : Int) (pa : Option Addr) (ca : Nat) (cs : List Cmp) (q : Option Addr) (qc : Nat) (l : List Prt) (m : UInt8) (w : World) (hA : CP w w.heap.size pa cs) (hqc : l.length ≤ qc) (hP : PP w w.heap.size q l) (hF : ∀ x ∈ l, ∀ y ∈ x.vals, y.fit) :
    Calls Try.prog 4 #[.agg #[.int .i64 v, .slice pa cs.length ca], .slice q l.length qc, .int .u8 (m.toNat : Int)] w fun e w' => e = .returned (.bool true) ∧ Below w.heap.size w w' :=
  (sc_rows v cs pa ca l q qc m w hA hqc hP hF).mono fun _ _ h => ⟨h.1, h.2.below⟩
end Go.Proofs.Ytfehiclbcebnoaa
