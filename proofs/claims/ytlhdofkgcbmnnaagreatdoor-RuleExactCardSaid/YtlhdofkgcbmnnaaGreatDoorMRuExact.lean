/- What is proved: the walk of RuleExact: a program's bytes, and the program of bytes, are the document's. -/
import Derived.Test.YtlhdofkgcbmnnaaGreatDoorMRuAwake
import Derived.Test.YtlhdofkgcbmnnaaGreatDoorMRuForm
import Derived.Test.YtlhdofkgcbmnnaaGreatDoorMRf12a
import Derived.Test.YtlhdofkgcbmnnaaGreatDoorMRf12D
import Derived.Test.YtlhdofkgcbmnnaaGreatDoorMHeap
import Derived.Test.YtlhdofkgcbmnnaaGreatDoorProg
import Derived.Deep.Slices
import Derived.Deep.Strs
import Derived.ProofKit
import Derived.OpenShut
import Derived.ShutString
import Derived.ChangeOld
import Derived.Below
import Derived.Test.YtlhdofkgcbmnnaaGreatDoorMWide2
import Derived.Lib.SmallJoins
namespace Go.Proofs.YtlhdofkgcbmnnaaGreatDoor
open Go.RowKit Go.Proofs.Heap Go.Proofs.Sch Go.Proofs.Wide

theorem decRs_lit (s : ByteArray) : (decRs s).length ≤ 24 ∧ ∀ r ∈ decRs s, LitR r := by
  unfold decRs
  split
  next h =>
    obtain ⟨_, h2⟩ := enc_goodR h
    obtain ⟨_, _, h3, h4⟩ := prog_ok h2
    refine ⟨h3, fun r hr => ⟨by have := (h4 r hr).2.2.2.2.1; omega, fun c hc => ?_⟩⟩
    have h5 := (exprC_all (encC_all ((h4 r hr).2.2.2.2.2 c hc)).1).2.1
    omega
  · exact ⟨Nat.zero_le _, fun r hr => by simp at hr⟩

set_option maxRecDepth 20000 in
set_option maxHeartbeats 64000000 in
theorem ru_exact (a b : Int) (rs : List Rul) (pa : Option Addr) (ca : Nat) (bytes : ByteArray) (w : World) (hfA : ∀ r ∈ rs, FitR r) (hA : UP w w.heap.size pa rs) (hbs : bytes.size ≤ 9223372036854775807) :
    Calls Tryz.prog 3 #[PgV a b pa rs.length ca, .string bytes] w fun r w' => r = .returned (.bool true) ∧ Keep (fun _ => False) w w' := by
  obtain ⟨w1, hw1, hb1, hs1, hk1⟩ := box1 w #[.int .i64 a, .int .i64 b, .slice pa rs.length ca] 24
  have HK1 := hid hk1; have HB1 := hid hb1
  have HUA := hid (fun (wy : World) (hk : Keep (fun _ => False) w wy) => UP.mono (UP.low hA (Low.keep0 hk)) hk.size)
  have HFA := hid hfA
  have HDC := hid (fun wy => ru_decode bytes wy hbs)
  have HRD := hid (fun (h : bytes.size ≤ 8192) wy => r_decode12 bytes wy h)
  clear hb1 hs1 hk1 hA hfA
  go_enter Tryz.func3, Tryz.ntmps3
  go_upto_region 1 with fail
  rw [← hw1]
  clear hw1
  obtain ⟨sb, hsb⟩ : ∃ sb, w.heap.size = sb := ⟨_, rfl⟩
  rw [hsb] at HB1 ⊢
  clear hsb
  have HC : Hid (∀ wy, Keep (fun _ => False) w1 wy → wy.cell? ⟨sb, 0, none⟩ = some (.int .i64 a) ∧ wy.cell? ⟨sb, 1, none⟩ = some (.int .i64 b) ∧ wy.cell? ⟨sb, 2, none⟩ = some (.slice pa rs.length ca)) := hid (fun wy hk =>
    ⟨cell_of (hk.get HB1.out (fun e => e)) (by rfl), cell_of (hk.get HB1.out (fun e => e)) (by rfl), cell_of (hk.get HB1.out (fun e => e)) (by rfl)⟩)
  go_wp2_with fail
  refine (ru_awake w1).mono ?_
  rintro r w2 ⟨rfl, hk⟩
  have HP2 := hid hk
  clear hk
  obtain ⟨a0, a1, a2⟩ := HC.out w2 HP2.out
  have HGA := hid (ru_great a b rs pa ca w2 (HUA.out w2 (HK1.out.trans HP2.out)))
  go_wp2_with fail
  refine HGA.out.mono ?_
  rintro r w3 ⟨rfl, hk⟩
  have HP3 := hid (HP2.out.trans hk)
  clear hk HGA a0 a1 a2
  cases ga : greatP rs
  rotate_left
  · clear ga
    go_wp2
    go_ret
    exact ⟨rfl, HK1.out.trans HP3.out⟩
  have HSA := hid (lit_of ga)
  clear ga
  by_cases hl : 8192 < bytes.size
  · have g1 : decide ((8192 : Int) < (bytes.size : Int)) = true := decide_eq_true (by omega)
    have g2 : decide (8192 < bytes.size) = true := decide_eq_true hl
    go_wp2
    go_ret
    exact ⟨rfl, HK1.out.trans HP3.out⟩
  have g1 : decide ((8192 : Int) < (bytes.size : Int)) = false := decide_eq_false (by omega)
  have g2 : decide (8192 < bytes.size) = false := decide_eq_false hl
  have HRD2 := hid (HRD.out (by omega))
  have hl30 := HSA.out.1
  obtain ⟨a0, a1, a2⟩ := HC.out w3 HP3.out
  have HFM := hid (ru_form a b rs pa ca w3 (by omega) HSA.out.2 (HUA.out w3 (HK1.out.trans HP3.out)))
  clear hl HRD
  go_wp2_with fail
  refine HFM.out.mono ?_
  rintro r w5 ⟨p5, c5, rfl, _, hu5, hk⟩
  have HP5 := hid (HP3.out.trans hk)
  clear hk HFM a0 a1 a2 g1 g2
  obtain ⟨w6, hw6, hb6, hs6, hk6⟩ := box1 w5 #[.int .i64 a, .int .i64 b, .slice p5 rs.length c5] 29
  have HP6 := hid (HP5.out.trans hk6)
  have HU5 := hid (fun (wy : World) (hk : Keep (fun _ => False) w6 wy) => UP.mono (UP.low hu5 (Low.keep0 (hk6.trans hk))) (hk6.trans hk).size)
  have HB6 := hid hb6
  clear hu5 hb6 hs6 hk6
  go_upto_region 6 with fail
  rw [← hw6]
  clear hw6
  obtain ⟨ub, hub⟩ : ∃ ub, w5.heap.size = ub := ⟨_, rfl⟩
  rw [hub] at HB6 ⊢
  clear hub
  have HD : Hid (∀ wy, Keep (fun _ => False) w6 wy → wy.cell? ⟨ub, 0, none⟩ = some (.int .i64 a) ∧ wy.cell? ⟨ub, 1, none⟩ = some (.int .i64 b) ∧ wy.cell? ⟨ub, 2, none⟩ = some (.slice p5 rs.length c5)) := hid (fun wy hk => ⟨cell_of (hk.get HB6.out (fun e => e)) (by rfl), cell_of (hk.get HB6.out (fun e => e)) (by rfl), cell_of (hk.get HB6.out (fun e => e)) (by rfl)⟩)
  obtain ⟨d0, d1, d2⟩ := HD.out w6 (Keep.refl _ _)
  have HCK := hid (r_check12 a b rs p5 c5 w6 (by omega) (fun r hr => (HSA.out.2 r hr).1) HFA.out (HU5.out w6 (Keep.refl _ _)))
  have HEN := hid (fun (wy : World) (hk : Keep (fun _ => False) w6 wy) => ru_encode a b rs pa ca wy (by have := HSA.out.1; omega) HFA.out (HUA.out wy (HK1.out.trans (HP6.out.trans hk))))
  have HPC := hid (fun (wy : World) (hk : Keep (fun _ => False) w6 wy) => prog_check a b rs pa ca wy (by have := HSA.out.1; omega) HFA.out (HUA.out wy (HK1.out.trans (HP6.out.trans hk))))
  have HRE := hid (fun (h : progC a b rs = 0) (wy : World) (hk : Keep (fun _ => False) w6 wy) => r_encode12 a b rs p5 c5 wy h HFA.out (HU5.out wy hk))
  have HPE : Hid (progC a b rs ≠ 0 → progS a b rs = ⟨#[]⟩) := hid (fun h => if_neg h)
  generalize progS a b rs = S at *
  generalize progC a b rs = C at *
  go_wp2_with fail
  refine HCK.out.mono ?_
  rintro r w7 ⟨rfl, hk⟩
  have HQ7 := hid hk
  clear hk HCK d0 d1 d2
  obtain ⟨a0, a1, a2⟩ := HC.out w7 (HP6.out.trans HQ7.out)
  go_wp2_with fail
  refine (HEN.out w7 HQ7.out).mono ?_
  rintro r w8 ⟨rfl, hk⟩
  have HQ8 := hid (HQ7.out.trans hk)
  clear hk HEN a0 a1 a2
  obtain ⟨a0, a1, a2⟩ := HC.out w8 (HP6.out.trans HQ8.out)
  go_upto_region 8 with fail
  go_cut [57] from 31 to 57 (fun v wx => v = .bool false ∧ Keep (fun _ => False) w8 wx)
  case first =>
    have gc : ((C : Int) != (C : Int)) = false := by simp
    have gc2 : (C != C) = false := by simp
    go_wp2_with fail
    refine (HPC.out w8 HQ8.out).mono ?_
    rintro r w9 ⟨rfl, hk⟩
    have HQ9 := hid (HQ8.out.trans hk)
    have HK9 := hid hk
    clear hk a0 a1 a2
    by_cases hz : C = 0
    · have HR2 := hid (HRE.out hz w9 HQ9.out)
      subst hz
      obtain ⟨d0, d1, d2⟩ := HD.out w9 HQ9.out
      have hse : (!S.toList == S.toList) = false := by simp
      clear gc gc2 HRE HPE
      go_wp2_with fail
      refine HR2.out.mono ?_
      rintro r w10 ⟨rfl, hk⟩
      have HK10 := hid (HK9.out.trans hk)
      clear hk d0 d1 d2
      go_wp2
      go_meet
      case rel => exact ⟨rfl, HK10.out⟩
    · have hS := HPE.out hz
      subst hS
      have g1 : ((C : Int) == 0) = false := by rw [beq_eq_false_iff_ne]; omega
      have g2 : (C == 0) = false := by rw [beq_eq_false_iff_ne]; exact hz
      have g3 : ((C : Int) != 0) = true := by rw [bne_iff_ne]; omega
      have g4 : (C != 0) = true := by rw [bne_iff_ne]; exact hz
      clear hz HRE HPE
      go_wp2
      go_meet
      case rel => exact ⟨rfl, HK9.out⟩
  case rest =>
  obtain ⟨rfl, hkc⟩ := hcut
  generalize wc = w9 at *
  have HQ9 := hid (HQ8.out.trans hkc)
  clear hkc a0 a1 a2 HPC HRE HPE
  have HLIT := hid (decRs_lit bytes)
  have HEG : Hid ((goodR bytes = true ∧ decER bytes = 0) ∨ (goodR bytes = false ∧ decER bytes = 4)) := hid (by
    unfold decER
    cases goodR bytes
    · exact .inr ⟨rfl, rfl⟩
    · exact .inl ⟨rfl, rfl⟩)
  have HDC2 := hid (HDC.out w9)
  unfold DecRP at HDC2
  unfold DecR12 at HRD2
  generalize decA bytes = da at *
  generalize decB bytes = db at *
  generalize decRs bytes = dr at *
  generalize decER bytes = E at *
  generalize goodR bytes = gd at *
  clear HDC
  go_wp2_with fail
  refine HDC2.out.mono ?_
  rintro r w10 ⟨p10, c10, rfl, hu10, _, hk⟩
  have HQ10 := hid (HQ9.out.trans hk)
  clear hk HDC2
  obtain ⟨w11, hw11, hb11, hs11, hk11⟩ := box1 w10 #[.int .i64 da, .int .i64 db, .slice p10 dr.length c10] 24
  have HB11 := hid hb11
  have HU11 := hid (fun (wy : World) (hk : Keep (fun _ => False) w11 wy) => UP.mono (UP.low hu10 (Low.keep0 (hk11.trans hk))) (hk11.trans hk).size)
  have HQ11 := hid (HQ10.out.trans hk11)
  clear hu10 hb11 hs11 hk11
  go_upto_region 11 with fail
  rw [← hw11]
  clear hw11
  generalize w10.heap.size = qb at *
  go_wp2_with fail
  refine (HRD2.out w11).mono ?_
  rintro r w12 ⟨p12, c12, rfl, _, hu12, hk⟩
  have HG12 := hid hk
  clear hk HRD2
  obtain ⟨w13, hw13, hb13, hs13, hk13⟩ := box1 w12 #[.int .i64 da, .int .i64 db, .slice p12 dr.length c12] 29
  have HB13 := hid hb13
  have HU13 := hid (fun (wy : World) (hk : Keep (fun _ => False) w13 wy) => UP.mono (UP.low hu12 (Low.keep0 (hk13.trans hk))) (hk13.trans hk).size)
  have HG13 := hid (HG12.out.trans hk13)
  clear hu12 hb13 hs13 hk13
  go_upto_region 12 with fail
  rw [← hw13]
  clear hw13
  generalize w12.heap.size = eb at *
  have HK13 := hid (Keep.refl (fun _ => False) w13).drew
  refine Plan.wp_region_pl [(false, 0, []), (false, 1, []), (false, 2, []), (false, 3, []), (false, 4, []), (false, 5, []), (false, 6, []), (false, 7, []), (false, 8, []), (false, 9, []), (false, 10, []), (false, 11, []), (false, 12, []), (false, 14, []), (true, 13, [14]), (true, 15, []), (false, 16, []), (false, 17, [])] (by as_aux_lemma => kernel_rfl) (by as_aux_lemma => kernel_rfl) ?_
  generalize w13.drew = wd at *
  have HFO := hid (fun (wy : World) (h : UP wy wy.heap.size p10 dr) => ru_form da db dr p10 c10 wy (by have := HLIT.out.1; omega) HLIT.out.2 h)
  have HSM := hid (fun (p : Option Addr) (z : Nat) (wy : World) (h1 : UP wy wy.heap.size p dr) (h2 : UP wy wy.heap.size p12 dr) => ru_same12 da db dr p z da db dr p12 c12 wy (by have := HLIT.out.1; omega) HLIT.out.2 h1 h2)
  rw [show sameP da db dr da db dr = true from decide_eq_true ⟨rfl, rfl, rfl⟩] at HSM
  have q0 := cell_of ((HG13.out.trans HK13.out).get HB11.out (fun e => e)) (i := 0) (by rfl)
  have q1 := cell_of ((HG13.out.trans HK13.out).get HB11.out (fun e => e)) (i := 1) (by rfl)
  have q2 := cell_of ((HG13.out.trans HK13.out).get HB11.out (fun e => e)) (i := 2) (by rfl)
  have e0 := cell_of (HK13.out.get HB13.out (fun e => e)) (i := 0) (by rfl)
  have e1 := cell_of (HK13.out.get HB13.out (fun e => e)) (i := 1) (by rfl)
  have e2 := cell_of (HK13.out.get HB13.out (fun e => e)) (i := 2) (by rfl)
  have HWF := hid (HK1.out.trans (HP6.out.trans (HQ11.out.trans (HG13.out.trans HK13.out))))
  rcases HEG.out with ⟨rfl, rfl⟩ | ⟨rfl, rfl⟩
  all_goals
    iterate 14 (refine Plan.pl_st rfl ?_; go_big_quiet_step (fail); refine wpQuiet_nil ?_)
    refine Plan.pl_ac rfl ?_
    go_wp2_with fail
    refine (HFO.out wd (HU11.out wd (HG13.out.trans HK13.out))).mono ?_
    rintro r w15 ⟨p15, c15, rfl, _, hu15, hk⟩
    have HU15 := hid hu15
    have HK15 := hid (HK13.out.trans hk)
    have HWG := hid (HWF.out.trans hk)
    clear hk hu15 q0 q1 q2 e0 e1 e2
    have e0 := cell_of (HK15.out.get HB13.out (fun e => e)) (i := 0) (by rfl)
    have e1 := cell_of (HK15.out.get HB13.out (fun e => e)) (i := 1) (by rfl)
    have e2 := cell_of (HK15.out.get HB13.out (fun e => e)) (i := 2) (by rfl)
    go_wp2
    refine Plan.plQ_mk ?_ ?_
    · iterate 1 (refine Plan.chk_st rfl ?_ ?_; focus (go_big_quiet_step (fail); exact wpQuiet_nil rfl))
      exact Plan.chk_end
    refine Plan.pl_ac rfl ?_
    go_wp2_with fail
    refine (HSM.out p15 c15 w15 HU15.out (HU13.out w15 HK15.out)).mono ?_
    rintro r w16 ⟨rfl, hk⟩
    have HWH := hid (HWG.out.trans hk)
    clear hk e0 e1 e2
    go_wp2
    refine Plan.plQ_mk Plan.chk_end ?_
    iterate 2 (refine Plan.pl_st rfl ?_; go_big_quiet_step (fail); refine wpQuiet_nil ?_)
    refine Plan.pl_end ?_
    go_wp2
    go_ret
    exact ⟨rfl, HWH.out⟩
end Go.Proofs.YtlhdofkgcbmnnaaGreatDoor

namespace Go.Proofs.YtlhdofkgcbmnnaaGreatDoor
open Go.ChangeShapes Go.WideShapes Go.ChangeAt Go.RowKit Go.Proofs.Heap Go.Proofs.Sch

theorem u64_wf {z : Int} (h : (Lit.int .u64 z).wf = true) : 0 ≤ z ∧ z < 18446744073709551616 := by
  have h : IntKind.u64.min ≤ z ∧ z ≤ IntKind.u64.max := by simpa [Lit.wf] using h
  have h1 : IntKind.u64.min = 0 := by decide
  have h2 : IntKind.u64.max = 18446744073709551615 := by decide
  omega

section
variable {H : Type} {enc : TypeId × Value → H} {W : World}

theorem addr_add (b off i : Nat) : (⟨b, off, none⟩ : Addr).add i = ⟨b, off + i, none⟩ := by unfold Addr.add; split <;> simp_all

/-- A row of things that a law is handed. -/
theorem open_row {α : Type} {z : Nat} {t e : TypeId} (ht : Tryz.prog.underlying t = some (.slice e)) (hsz : Tryz.prog.cellsOf e = z) (at_ : World → Nat → Nat → α → Prop)
    (hel : ∀ (a : Addr) (n : Nat) (cs : List Value) (D : DataW H × List MemPlace), W.cells? 0 a z = some cs → DataW.trod enc Tryz.prog W 0 (fun _ => true) true n e cs = some D → a.spot = none ∧ a.block < W.heap.size ∧ ∃ x : α, at_ W a.block a.off x)
    {fuel : Nat} {cs : List Value} {x : DataW H × List MemPlace} (h : DataW.trod enc Tryz.prog W 0 (fun _ => true) true fuel t cs = some x) :
    ∃ (p : Option Addr) (c : Nat) (l : List α), cs = [.slice p l.length c] ∧ l.length ≤ c ∧ RowP z at_ W W.heap.size p l := by
  rcases Go.Deep.open_slice ht h with ⟨hcs, _⟩ | ⟨a, len, cap, m, n, D, Pl, hcs, _, hl, hm, hz', _, hcell⟩
  · exact ⟨none, 0, [], hcs, Nat.le_refl _, .inl rfl⟩
  · have hmc : m = cap := by simpa using hz'
    subst hmc
    rw [hsz] at hcell
    by_cases hl0 : len = 0
    · subst hl0
      exact ⟨some a, m, [], hcs, Nat.zero_le _, .inl rfl⟩
    · obtain ⟨b, off, spot⟩ := a
      have hblk : spot = none ∧ b < W.heap.size := by
        obtain ⟨cs', hc1, hc2⟩ := hcell 0 (by omega)
        obtain ⟨h1, h2, _⟩ := hel _ _ _ _ hc1 hc2
        refine ⟨?_, by simpa [Addr.add] using h2⟩
        simpa [Addr.add] using h1
      obtain ⟨rfl, hb⟩ := hblk
      have key : ∀ k, k ≤ len → ∃ l : List α, l.length = k ∧ ∀ i y, l[i]? = some y → at_ W b (off + i * z) y := by
        intro k
        induction k with
        | zero => exact fun _ => ⟨[], rfl, fun i y hy => by simp at hy⟩
        | succ k ih =>
          intro hk
          obtain ⟨l, hll, hla⟩ := ih (by omega)
          obtain ⟨cs', hc1, hc2⟩ := hcell k (by omega)
          obtain ⟨_, _, y, hy⟩ := hel _ _ _ _ hc1 hc2
          rw [addr_add] at hy
          refine ⟨l ++ [y], by simp [hll], fun i u hu => ?_⟩
          by_cases hik : i < k
          · rw [List.getElem?_append_left (by omega)] at hu
            exact hla i u hu
          · rw [List.getElem?_append_right (by omega)] at hu
            have : i = k := by
              have := (List.getElem?_eq_some_iff.1 hu).1
              simp at this
              omega
            subst this
            simp [hll] at hu
            subst hu
            exact hy
      obtain ⟨l, hll, hla⟩ := key len (Nat.le_refl _)
      subst hll
      exact ⟨_, m, l, hcs, hl, .inr ⟨b, off, rfl, hb, hla⟩⟩

theorem spot_of {a : Addr} {v : Value} (h : W.cell? (a.add 0) = some v) : a.spot = none ∧ a.block < W.heap.size := by
  obtain ⟨b, off, spot⟩ := a
  have h1 : spot = none := by simpa [Addr.add] using World.cell?_spot h
  subst h1
  rw [addr_add] at h
  exact ⟨rfl, World.block_lt_of_cell? W _ h⟩

end
end Go.Proofs.YtlhdofkgcbmnnaaGreatDoor

namespace Go.Proofs.YtlhdofkgcbmnnaaGreatDoor
open Go.ChangeShapes Go.WideShapes Go.ChangeAt Go.RowKit Go.Proofs.Heap Go.Proofs.Sch Go.Proofs.Wide

section
variable {H : Type} {enc : TypeId × Value → H} {W : World}

def InsFit (w : World) (b o : Nat) (x : Ins) : Prop := InsAt w b o x ∧ x.k.fit

set_option maxRecDepth 100000 in
theorem open_ins (a : Addr) (n : Nat) (cs : List Value) (D : DataW H × List MemPlace) (hc : W.cells? 0 a 6 = some cs) (h : DataW.trod enc Tryz.prog W 0 (fun _ => true) true n 66 cs = some D) :
    a.spot = none ∧ a.block < W.heap.size ∧ ∃ x : Ins, InsFit W a.block a.off x := by
  have hs_bool : Tryz.prog.cellsOf 4 = 1 := by kernel_rfl
  have hs_u64 : Tryz.prog.cellsOf 62 = 1 := by kernel_rfl
  have hs_int : Tryz.prog.cellsOf 3 = 1 := by kernel_rfl
  have hs_k : Tryz.prog.cellsOf 64 = 3 := by kernel_rfl
  obtain ⟨_, hlen, hat⟩ := World.cells?_some hc
  obtain ⟨y0, y1, y2, y3, n', _, _, t0, t1, t2, t3⟩ := Go.Joins.trod_struct4 Tryz.underlying66 h
  match cs, hlen with
  | [u0, u1, u2, u3, u4, u5], _ =>
    have g0 := hat 0 (by omega)
    have g1 := hat 1 (by omega)
    have g2 := hat 2 (by omega)
    have g3 := hat 3 (by omega)
    have g4 := hat 4 (by omega)
    have g5 := hat 5 (by omega)
    simp only [hs_int, hs_k, List.drop, List.take] at t0 t1 t2 t3
    obtain ⟨K0, eK0, _, _⟩ := DataW.trod_int Tryz.underlying3 t0
    obtain ⟨K1, eK1, _, _⟩ := DataW.trod_int Tryz.underlying3 t1
    obtain ⟨K2, eK2, _, _⟩ := DataW.trod_int Tryz.underlying3 t2
    obtain ⟨z0, z1, z2, n2, _, _, r0, r1, r2⟩ := Go.Deep.trod_struct3 Tryz.underlying64 t3
    simp only [hs_bool, hs_u64, List.drop, List.take] at r0 r1 r2
    obtain ⟨K3, eK3, _⟩ := DataW.trod_bool Tryz.underlying4 r0
    obtain ⟨K4, eK4, _, w1⟩ := DataW.trod_int Tryz.underlying62 r1
    obtain ⟨K5, eK5, _, w2⟩ := DataW.trod_int Tryz.underlying62 r2
    simp at eK0 eK1 eK2 eK3 eK4 eK5
    subst eK0; subst eK1; subst eK2; subst eK3; subst eK4; subst eK5
    have b1 := u64_wf w1
    have b2 := u64_wf w2
    obtain ⟨N1, rfl⟩ := Int.eq_ofNat_of_zero_le b1.1
    obtain ⟨N2, rfl⟩ := Int.eq_ofNat_of_zero_le b2.1
    obtain ⟨h1, h2⟩ := spot_of g0
    obtain ⟨b, off, spot⟩ := a
    simp only at h1 h2
    subst h1
    rw [addr_add] at g0 g1 g2 g3 g4 g5
    exact ⟨rfl, h2, ⟨K0, K1, K2, ⟨K3, N1, N2⟩⟩, ⟨g0, g1, g2, g3, g4, g5⟩, by unfold WI.fit; simp only; omega⟩

theorem open_code {fuel : Nat} {cs : List Value} {x : DataW H × List MemPlace} (h : DataW.trod enc Tryz.prog W 0 (fun _ => true) true fuel 68 cs = some x) :
    ∃ (p : Option Addr) (c : Nat) (l : List Ins), cs = [.slice p l.length c] ∧ l.length ≤ c ∧ IP W W.heap.size p l ∧ ∀ y ∈ l, y.k.fit := by
  obtain ⟨p, c, l, h1, h2, h3⟩ := open_row Tryz.underlying68 (by kernel_rfl) InsFit (fun a n cs D hc h => open_ins a n cs D hc h) h
  refine ⟨p, c, l, h1, h2, RowP.imp h3 (Nat.le_refl _) (fun _ _ _ _ h => h.1), fun y hy => ?_⟩
  rcases h3 with rfl | ⟨b, off, _, _, hc⟩
  · cases hy
  · obtain ⟨i, hi⟩ := List.getElem?_of_mem hy
    exact (hc i y hi).2

def ExFit (B : Nat) (w : World) (b o : Nat) (x : List Ins) : Prop := ExAt B w b o x ∧ ∀ y ∈ x, y.k.fit

set_option maxRecDepth 100000 in
theorem open_ex (a : Addr) (n : Nat) (cs : List Value) (D : DataW H × List MemPlace) (hc : W.cells? 0 a 1 = some cs) (h : DataW.trod enc Tryz.prog W 0 (fun _ => true) true n 68 cs = some D) :
    a.spot = none ∧ a.block < W.heap.size ∧ ∃ x : List Ins, ExFit W.heap.size W a.block a.off x := by
  obtain ⟨_, hlen, hat⟩ := World.cells?_some hc
  obtain ⟨p, c, l, e1, hlc, hip, hif⟩ := open_code h
  subst e1
  have g0 := hat 0 (by simp)
  obtain ⟨h1, h2⟩ := spot_of g0
  obtain ⟨b, off, spot⟩ := a
  simp only at h1 h2
  subst h1
  rw [addr_add] at g0
  exact ⟨rfl, h2, l, ⟨p, c, g0, hlc, hip⟩, hif⟩
theorem open_exprs {fuel : Nat} {cs : List Value} {x : DataW H × List MemPlace} (h : DataW.trod enc Tryz.prog W 0 (fun _ => true) true fuel 44 cs = some x) :
    ∃ (p : Option Addr) (c : Nat) (l : List (List Ins)), cs = [.slice p l.length c] ∧ l.length ≤ c ∧ EP W W.heap.size p l ∧ ∀ y ∈ l, ∀ u ∈ y, u.k.fit := by
  obtain ⟨p, c, l, h1, h2, h3⟩ := open_row Tryz.underlying44 (by kernel_rfl) (ExFit W.heap.size) (fun a n cs D hc h => open_ex a n cs D hc h) h
  refine ⟨p, c, l, h1, h2, RowP.imp h3 (Nat.le_refl _) (fun _ _ _ _ h => h.1), fun y hy => ?_⟩
  rcases h3 with rfl | ⟨b, off, _, _, hc⟩
  · cases hy
  · obtain ⟨i, hi⟩ := List.getElem?_of_mem hy
    exact (hc i y hi).2

set_option maxRecDepth 100000 in
/-- A rule that a law is handed. -/
theorem open_rule_of {v : Value} {r : Reach} {b : Nat} (hv : Value.okWide Tryz.prog W r b 46 v) {fuel : Nat} {x : DataW H × List MemPlace} (h : DataW.trod enc Tryz.prog W 0 (fun _ => true) true fuel 46 v.cells.toList = some x) :
    ∃ (c : Rul) (p : Option Addr) (z : Nat), v = .agg #[.int .i64 c.new, .int .i64 c.old, .slice p c.exprs.length z] ∧ c.exprs.length ≤ z ∧ EP W W.heap.size p c.exprs ∧ ∀ y ∈ c.exprs, ∀ u ∈ y, u.k.fit := by
  have hs_int : Tryz.prog.cellsOf 3 = 1 := by kernel_rfl
  have hs_ex : Tryz.prog.cellsOf 44 = 1 := by kernel_rfl
  have hs : Tryz.prog.cellsOf 46 = 3 := by kernel_rfl
  unfold Value.okWide at hv
  rw [Tryz.underlying46] at hv
  obtain ⟨cs, rfl, hsz, _⟩ := hv
  rw [hs] at hsz
  obtain ⟨⟨u0, u1, u2, rfl⟩⟩ : Nonempty (∃ u0 u1 u2, cs = #[u0, u1, u2]) := by
    obtain ⟨l⟩ := cs
    match l, hsz with
    | [u0, u1, u2], _ => exact ⟨u0, u1, u2, rfl⟩
  obtain ⟨y0, y1, y2, n', _, _, t0, t1, t2⟩ := Go.Deep.trod_struct3 Tryz.underlying46 h
  simp only [Value.cells, hs_int, hs_ex, List.drop, List.take] at t0 t1 t2
  obtain ⟨K0, eK0, _, _⟩ := DataW.trod_int Tryz.underlying3 t0
  obtain ⟨K1, eK1, _, _⟩ := DataW.trod_int Tryz.underlying3 t1
  obtain ⟨p, c, l, eK2, hlc, hfp, hft⟩ := open_exprs t2
  simp at eK0 eK1 eK2
  subst eK0; subst eK1; subst eK2
  exact ⟨⟨K0, K1, l⟩, p, c, rfl, hlc, hfp, hft⟩
end
end Go.Proofs.YtlhdofkgcbmnnaaGreatDoor

namespace Go.Proofs.YtlhdofkgcbmnnaaGreatDoor
open Go.ChangeShapes Go.WideShapes Go.ChangeAt Go.RowKit Go.Proofs.Heap Go.Proofs.Sch Go.Proofs.Wide

section
variable {H : Type} {enc : TypeId × Value → H} {W : World}

def RulFit (B : Nat) (w : World) (b o : Nat) (x : Rul) : Prop := RulAt B w b o x ∧ ∀ y ∈ x.exprs, ∀ u ∈ y, u.k.fit
set_option maxRecDepth 100000 in
theorem open_rul (a : Addr) (n : Nat) (cs : List Value) (D : DataW H × List MemPlace) (hc : W.cells? 0 a 3 = some cs) (h : DataW.trod enc Tryz.prog W 0 (fun _ => true) true n 46 cs = some D) :
    a.spot = none ∧ a.block < W.heap.size ∧ ∃ x : Rul, RulFit W.heap.size W a.block a.off x := by
  have hs_int : Tryz.prog.cellsOf 3 = 1 := by kernel_rfl
  have hs_ex : Tryz.prog.cellsOf 44 = 1 := by kernel_rfl
  obtain ⟨_, hlen, hat⟩ := World.cells?_some hc
  obtain ⟨y0, y1, y2, n', _, _, t0, t1, t2⟩ := Go.Deep.trod_struct3 Tryz.underlying46 h
  match cs, hlen with
  | [u0, u1, u2], _ =>
    have g0 := hat 0 (by omega)
    have g1 := hat 1 (by omega)
    have g2 := hat 2 (by omega)
    simp only [hs_int, hs_ex, List.drop, List.take] at t0 t1 t2
    obtain ⟨K0, eK0, _, _⟩ := DataW.trod_int Tryz.underlying3 t0
    obtain ⟨K1, eK1, _, _⟩ := DataW.trod_int Tryz.underlying3 t1
    obtain ⟨p, c, l, eK2, hlc, hfp, hft⟩ := open_exprs t2
    simp at eK0 eK1 eK2
    subst eK0; subst eK1; subst eK2
    obtain ⟨h1, h2⟩ := spot_of g0
    obtain ⟨b, off, spot⟩ := a
    simp only at h1 h2
    subst h1
    rw [addr_add] at g0 g1 g2
    exact ⟨rfl, h2, ⟨K0, K1, l⟩, ⟨g0, g1, p, c, g2, hlc, hfp⟩, hft⟩
theorem open_rules {fuel : Nat} {cs : List Value} {x : DataW H × List MemPlace} (h : DataW.trod enc Tryz.prog W 0 (fun _ => true) true fuel 22 cs = some x) :
    ∃ (p : Option Addr) (c : Nat) (l : List Rul), cs = [.slice p l.length c] ∧ l.length ≤ c ∧ UP W W.heap.size p l ∧ ∀ r ∈ l, ∀ y ∈ r.exprs, ∀ u ∈ y, u.k.fit := by
  obtain ⟨p, c, l, h1, h2, h3⟩ := open_row Tryz.underlying22 (by kernel_rfl) (RulFit W.heap.size) (fun a n cs D hc h => open_rul a n cs D hc h) h
  refine ⟨p, c, l, h1, h2, RowP.imp h3 (Nat.le_refl _) (fun _ _ _ _ h => h.1), fun y hy => ?_⟩
  rcases h3 with rfl | ⟨b, off, _, _, hc⟩
  · cases hy
  · obtain ⟨i, hi⟩ := List.getElem?_of_mem hy
    exact (hc i y hi).2

set_option maxRecDepth 100000 in
/-- A program of rules that a law is handed. -/
theorem open_prog_of {v : Value} {r : Reach} {b : Nat} (hv : Value.okWide Tryz.prog W r b 24 v) {fuel : Nat} {x : DataW H × List MemPlace} (h : DataW.trod enc Tryz.prog W 0 (fun _ => true) true fuel 24 v.cells.toList = some x) :
    ∃ (f t : Int) (l : List Rul) (p : Option Addr) (z : Nat), v = .agg #[.int .i64 f, .int .i64 t, .slice p l.length z] ∧ l.length ≤ z ∧ UP W W.heap.size p l ∧ ∀ r ∈ l, ∀ y ∈ r.exprs, ∀ u ∈ y, u.k.fit := by
  have hs_int : Tryz.prog.cellsOf 3 = 1 := by kernel_rfl
  have hs_ex : Tryz.prog.cellsOf 22 = 1 := by kernel_rfl
  have hs : Tryz.prog.cellsOf 24 = 3 := by kernel_rfl
  unfold Value.okWide at hv
  rw [Tryz.underlying24] at hv
  obtain ⟨cs, rfl, hsz, _⟩ := hv
  rw [hs] at hsz
  obtain ⟨⟨u0, u1, u2, rfl⟩⟩ : Nonempty (∃ u0 u1 u2, cs = #[u0, u1, u2]) := by
    obtain ⟨l⟩ := cs
    match l, hsz with
    | [u0, u1, u2], _ => exact ⟨u0, u1, u2, rfl⟩
  obtain ⟨y0, y1, y2, n', _, _, t0, t1, t2⟩ := Go.Deep.trod_struct3 Tryz.underlying24 h
  simp only [Value.cells, hs_int, hs_ex, List.drop, List.take] at t0 t1 t2
  obtain ⟨K0, eK0, _, _⟩ := DataW.trod_int Tryz.underlying3 t0
  obtain ⟨K1, eK1, _, _⟩ := DataW.trod_int Tryz.underlying3 t1
  obtain ⟨p, c, l, eK2, hlc, hfp, hft⟩ := open_rules t2
  simp at eK0 eK1 eK2
  subst eK0; subst eK1; subst eK2
  exact ⟨K0, K1, l, p, c, rfl, hlc, hfp, hft⟩
end
end Go.Proofs.YtlhdofkgcbmnnaaGreatDoor

namespace Go.Proofs.YtlhdofkgcbmnnaaGreatDoor
open Go.RowKit Go.Proofs.Heap Go.Proofs.Sch Go.Proofs.Wide

theorem ruexact_true (a b : Int) (rs : List Rul) (pa : Option Addr) (ca : Nat) (bytes : ByteArray) (w : World) (_h1 : rs.length ≤ ca) (hA : UP w w.heap.size pa rs) (hfA : ∀ r ∈ rs, ∀ y ∈ r.exprs, ∀ u ∈ y, u.k.fit) (hbs : bytes.size ≤ maxLen) :
    Calls Tryz.prog 3 #[.agg #[.int .i64 a, .int .i64 b, .slice pa rs.length ca], .string bytes] w fun e w' => e = .returned (.bool true) ∧ Below w.heap.size w w' :=
  (ru_exact a b rs pa ca bytes w hfA hA (by unfold maxLen at hbs; omega)).mono fun _ _ h => ⟨h.1, h.2.below⟩
end Go.Proofs.YtlhdofkgcbmnnaaGreatDoor
