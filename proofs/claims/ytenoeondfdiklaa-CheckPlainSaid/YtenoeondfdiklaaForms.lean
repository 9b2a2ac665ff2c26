/- What is proved: whether two schemas and a program can be and go together. -/
import Derived.Test.YtenoeondfdiklaaRul1
import Derived.Test.YtenoeondfdiklaaSchCheck
namespace Go.Proofs.Ytenoeondfdiklaa
open Go.RowKit Go.Proofs.Heap Go.Proofs.Sch Go.Proofs.Wide

def firstErr : List Nat → Nat
  | [] => 0
  | e :: r => if e = 0 then firstErr r else e
/-- The error of two schemas and a program's versions. -/
def formsC (va : Int) (ca : List Cmp) (vb : Int) (cb : List Cmp) (pa pb : Int) (rs : List Rul) : Nat :=
  if firstErr [checkC va ca, checkC vb cb, progC pa pb rs] = 0 then (if pa ≠ va ∨ pb ≠ vb ∨ pb ≤ pa then 7 else 0) else firstErr [checkC va ca, checkC vb cb, progC pa pb rs]

set_option maxRecDepth 20000 in
set_option maxHeartbeats 8000000 in
theorem chk_forms (va : Int) (ca : List Cmp) (p : Option Addr) (z : Nat) (vb : Int) (cb : List Cmp) (p2 : Option Addr) (z2 : Nat) (pa pb : Int) (rs : List Rul) (q : Option Addr) (qc : Nat) (w : World)
    (ha : Small ca) (hb : Small cb) (hl : rs.length ≤ 65536) (hfit : ∀ r ∈ rs, ∀ c ∈ r.exprs, ∀ x ∈ c, x.k.fit) (hca : CP w w.heap.size p ca) (hcb : CP w w.heap.size p2 cb) (hc : UP w w.heap.size q rs) :
    Calls Try.prog 26 #[.agg #[.int .i64 va, .slice p ca.length z], .agg #[.int .i64 vb, .slice p2 cb.length z2], .agg #[.int .i64 pa, .int .i64 pb, .slice q rs.length qc]] w
      fun e w' => e = .returned (iV (formsC va ca vb cb pa pb rs)) ∧ Keep (fun _ => False) w w' := by
  obtain ⟨w3, hw3, hb1, hb2, hb3, hs3, hk3⟩ := box3 w #[.int .i64 va, .slice p ca.length z] #[.int .i64 vb, .slice p2 cb.length z2] #[.int .i64 pa, .int .i64 pb, .slice q rs.length qc] 32 32 35
  have HK := hid hk3
  have HD : Hid (∀ wy, Keep (fun _ => False) w3 wy → CP wy wy.heap.size p ca ∧ CP wy wy.heap.size p2 cb ∧ UP wy wy.heap.size q rs) := hid (fun wy hk =>
    ⟨CP.mono (CP.low hca (Low.keep0 (hk3.trans hk))) (hk3.trans hk).size, CP.mono (CP.low hcb (Low.keep0 (hk3.trans hk))) (hk3.trans hk).size, UP.mono (UP.low hc (Low.keep0 (hk3.trans hk))) (hk3.trans hk).size⟩)
  have HFC : Hid (formsC va ca vb cb pa pb rs = if firstErr [checkC va ca, checkC vb cb, progC pa pb rs] = 0 then (if pa ≠ va ∨ pb ≠ vb ∨ pb ≤ pa then 7 else 0) else firstErr [checkC va ca, checkC vb cb, progC pa pb rs]) := hid rfl
  have HA := hid (fun (w : World) (h : CP w w.heap.size p ca) => sch_check va ca p z w ha h)
  have HB := hid (fun (w : World) (h : CP w w.heap.size p2 cb) => sch_check vb cb p2 z2 w hb h)
  have HP := hid (fun (w : World) (h : UP w w.heap.size q rs) => prog_check pa pb rs q qc w hl hfit h)
  clear hca hcb hc hk3 hs3 hfit ha hb hl
  go_enter Try.func26, Try.ntmps26
  go_upto_region 1 with fail
  rw [← hw3]
  clear hw3
  generalize w.heap.size = sb at *
  have HW : Hid (∀ wy, Keep (fun _ => False) w3 wy → (wy.cell? ⟨sb, 0, none⟩ = some (.int .i64 va) ∧ wy.cell? ⟨sb, 1, none⟩ = some (.slice p ca.length z)) ∧ (wy.cell? ⟨sb + 1, 0, none⟩ = some (.int .i64 vb) ∧ wy.cell? ⟨sb + 1, 1, none⟩ = some (.slice p2 cb.length z2)) ∧
      (wy.cell? ⟨sb + 1 + 1, 0, none⟩ = some (.int .i64 pa) ∧ wy.cell? ⟨sb + 1 + 1, 1, none⟩ = some (.int .i64 pb) ∧ wy.cell? ⟨sb + 1 + 1, 2, none⟩ = some (.slice q rs.length qc))) := hid (fun wy hk =>
    ⟨⟨cell_of (hk.get hb1 id) (by rfl), cell_of (hk.get hb1 id) (by rfl)⟩, ⟨cell_of (hk.get hb2 id) (by rfl), cell_of (hk.get hb2 id) (by rfl)⟩, cell_of (hk.get hb3 id) (by rfl), cell_of (hk.get hb3 id) (by rfl), cell_of (hk.get hb3 id) (by rfl)⟩)
  clear hb1 hb2 hb3
  have hkd := (Keep.refl (fun _ => False) w3).drew
  have HKD := hid hkd
  obtain ⟨⟨s0, s1⟩, ⟨s2, s3⟩, s4, s5, s6⟩ := HW.out _ hkd
  clear hkd
  refine Plan.wp_region_pl [(false, 0, []), (false, 2, []), (false, 4, []), (false, 8, []), (true, 1, [8, 4, 2]), (true, 3, [8, 4]), (true, 5, [8]), (true, 6, [8]), (false, 7, [])] (by kernel_rfl) (by kernel_rfl) ?_
  iterate 4 (refine Plan.pl_st rfl ?_; go_big_quiet_step (fail); refine wpQuiet_nil ?_)
  refine Plan.pl_ac rfl ?_
  go_wp2_with fail
  refine (HA.out _ (HD.out _ HKD.out).1).mono ?_
  rintro r w4 ⟨rfl, hk4⟩
  have HK4 := hid (HKD.out.trans hk4)
  clear hk4 s0 s1 s2 s3 s4 s5 s6
  obtain ⟨⟨s0, s1⟩, ⟨s2, s3⟩, s4, s5, s6⟩ := HW.out _ HK4.out
  go_wp2
  refine Plan.plQ_mk ?_ ?_
  · iterate 3 (refine Plan.chk_st rfl ?_ ?_; focus (go_big_quiet_step (fail); exact wpQuiet_nil rfl))
    exact Plan.chk_end
  refine Plan.pl_ac rfl ?_
  go_wp2_with fail
  refine (HB.out _ (HD.out _ HK4.out).2.1).mono ?_
  rintro r w5 ⟨rfl, hk5⟩
  have HK5 := hid (HK4.out.trans hk5)
  clear hk5 s0 s1 s2 s3 s4 s5 s6
  obtain ⟨⟨s0, s1⟩, ⟨s2, s3⟩, s4, s5, s6⟩ := HW.out _ HK5.out
  go_wp2
  refine Plan.plQ_mk ?_ ?_
  · iterate 2 (refine Plan.chk_st rfl ?_ ?_; focus (go_big_quiet_step (fail); exact wpQuiet_nil rfl))
    exact Plan.chk_end
  refine Plan.pl_ac rfl ?_
  go_wp2_with fail
  refine (HP.out _ (HD.out _ HK5.out).2.2).mono ?_
  rintro r w6 ⟨rfl, hk6⟩
  have HK6 := hid (HK5.out.trans hk6)
  clear hk6 s0 s1 s2 s3 s4 s5 s6
  go_wp2
  refine Plan.plQ_mk ?_ ?_
  · iterate 1 (refine Plan.chk_st rfl ?_ ?_; focus (go_big_quiet_step (fail); exact wpQuiet_nil rfl))
    exact Plan.chk_end
  obtain ⟨w7, hw7, hb7, hs7, hk7⟩ := box1 w6 #[iV (checkC va ca), iV (checkC vb cb), iV (progC pa pb rs)] 43
  refine Plan.pl_ac rfl ?_
  go_wp2
  refine Plan.plQ_mk ?_ ?_
  · iterate 1 (refine Plan.chk_st rfl ?_ ?_; focus (go_big_quiet_step (fail); exact wpQuiet_nil rfl))
    exact Plan.chk_end
  iterate 1 (refine Plan.pl_st rfl ?_; go_big_quiet_step (fail); refine wpQuiet_nil ?_)
  refine Plan.pl_end ?_
  rw [← hw7]
  have HK7 := hid (HK6.out.trans hk7)
  have HB7 := hid hb7
  clear hw7 hs7 hk7 hb7
  generalize w6.heap.size = eb at *
  generalize checkC va ca = e1 at *
  generalize checkC vb cb = e2 at *
  generalize progC pa pb rs = e3 at *
  go_wp2_with fail
  go_loopw [8, 17] (fun _ i wr => ∃ k : Nat, k ≤ 3 ∧ i = iV k ∧ firstErr [e1, e2, e3] = firstErr ([e1, e2, e3].drop k) ∧ w7 = wr) (fun _ i _ => 4 - (intOf i).toNat)
  case atStart => exact ⟨0, by omega, rfl, rfl, rfl⟩
  case round =>
    obtain ⟨k, hk, rfl, heq, rfl⟩ := hrel
    have HEQ := hid heq
    clear heq
    by_cases hlt : k < 3
    · obtain ⟨e, hek⟩ : ∃ e, [e1, e2, e3][k]? = some e := ⟨[e1, e2, e3][k]'(by simpa using hlt), by simp⟩
      have HEX := hid (show firstErr [e1, e2, e3] = if e = 0 then firstErr ([e1, e2, e3].drop (k + 1)) else e by rw [HEQ.out, drop_next hek]; rfl)
      have c0 : w7.cell? ⟨eb, k, none⟩ = some (iV e) := cell_of HB7.out (by
        match k, hek with
        | 0, h => injection h with h; subst h; rfl
        | 1, h => injection h with h; subst h; rfl
        | 2, h => injection h with h; subst h; rfl
        | _ + 3, h => simp at h)
      have hin : (0 : Int) ≤ (k : Int) ∧ (k : Int) < 3 := ⟨by omega, by omega⟩
      clear hek HEQ
      by_cases hz : e = 0
      · subst hz
        have G := hid (HEX.out.trans (if_pos rfl))
        go_wp2
        go_roundw
        case rel => exact ⟨k + 1, by omega, by go_num, G.out, by trivial⟩
        case measure => simp [intOf]; omega
      · have G := hid (HEX.out.trans (if_neg hz))
        have G2 : Hid (formsC va ca vb cb pa pb rs = e) := hid (by rw [HFC.out, G.out, if_neg hz])
        have g1 : ((e : Int) != 0) = true := by simp only [bne, beq_eq_false_iff_ne.2 (show (e : Int) ≠ 0 by omega)]; rfl
        have g2 : (e != 0) = true := by simp only [bne, beq_eq_false_iff_ne.2 hz]; rfl
        go_wp2
        go_ret
        exact ⟨by rw [G2.out]; rfl, HK.out.trans HK7.out⟩
    · obtain rfl : k = 3 := by omega
      have HZ : Hid (firstErr [e1, e2, e3] = 0) := hid (by rw [HEQ.out]; rfl)
      have HF := hid (HFC.out.trans (if_pos HZ.out))
      clear HEQ HZ HFC
      obtain ⟨⟨s0, s1⟩, ⟨s2, s3⟩, s4, s5, s6⟩ := HW.out _ HK7.out
      by_cases h1 : pa = va
      rotate_left
      · have g1 : (pa != va) = true := by simp only [bne, beq_eq_false_iff_ne.2 h1]; rfl
        have G := hid (HF.out.trans (if_pos (.inl h1)))
        go_wp2
        go_ret
        exact ⟨by rw [G.out]; rfl, HK.out.trans HK7.out⟩
      have g1 : (pa != va) = false := by simp only [bne, beq_iff_eq.2 h1]; rfl
      by_cases h2 : pb = vb
      rotate_left
      · have g2 : (pb != vb) = true := by simp only [bne, beq_eq_false_iff_ne.2 h2]; rfl
        have G := hid (HF.out.trans (if_pos (.inr (.inl h2))))
        clear h1
        go_wp2
        go_ret
        exact ⟨by rw [G.out]; rfl, HK.out.trans HK7.out⟩
      have g2 : (pb != vb) = false := by simp only [bne, beq_iff_eq.2 h2]; rfl
      by_cases h3 : pb ≤ pa
      · have g3 : decide (pb ≤ pa) = true := decide_eq_true h3
        have G := hid (HF.out.trans (if_pos (.inr (.inr h3))))
        clear h1 h2
        go_wp2
        go_ret
        exact ⟨by rw [G.out]; rfl, HK.out.trans HK7.out⟩
      have g3 : decide (pb ≤ pa) = false := decide_eq_false h3
      have G := hid (HF.out.trans (if_neg (by rintro (h | h | h) <;> contradiction)))
      clear h1 h2
      go_wp2
      go_ret
      exact ⟨by rw [G.out]; rfl, HK.out.trans HK7.out⟩
end Go.Proofs.Ytenoeondfdiklaa
