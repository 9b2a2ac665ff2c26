/- What is proved: what Rule of the check answers. -/
import Derived.Test.YtenoeondfdiklaaChk
namespace Go.Proofs.Ytenoeondfdiklaa
open Go.RowKit Go.Proofs.Heap Go.Proofs.Sch Go.Proofs.Wide

def ruleRun (old : Cmp) : List Fld → List (List Ins) → Nat
  | f :: fs, c :: cs => if formC old f c = 0 then ruleRun old fs cs else formC old f c
  | _, _ => 0
/-- The error of a rule. -/
def ruleC (old new : Cmp) (r : Rul) : Nat := if r.old = 0 then 0 else if r.exprs.length = new.fs.length then ruleRun old new.fs r.exprs else 4

set_option maxRecDepth 20000 in
set_option maxHeartbeats 4000000 in
theorem chk_rule (old new : Cmp) (r : Rul) (p : Option Addr) (cap : Nat) (p2 : Option Addr) (cap2 : Nat) (q : Option Addr) (qc : Nat) (w : World) (hl : old.fs.length ≤ 4398046511104) (hl2 : new.fs.length ≤ 4398046511104)
    (hfit : ∀ c ∈ r.exprs, ∀ x ∈ c, x.k.fit) (hf : FP w w.heap.size p old.fs) (hf2 : FP w w.heap.size p2 new.fs) (hc : EP w w.heap.size q r.exprs) :
    Calls Try.prog 8 #[.agg #[.int .i64 old.id, .string old.name, .slice p old.fs.length cap], .agg #[.int .i64 new.id, .string new.name, .slice p2 new.fs.length cap2], .agg #[.int .i64 r.new, .int .i64 r.old, .slice q r.exprs.length qc]] w
      fun e w' => e = .returned (iV (ruleC old new r)) ∧ Keep (fun _ => False) w w' := by
  obtain ⟨oi, on, fs⟩ := old
  obtain ⟨ni, nn, gs⟩ := new
  obtain ⟨rn, ro, es⟩ := r
  simp only at hl hl2 hf hf2 hc hfit
  obtain ⟨w3, hw3, hb1, hb2, hb3, hs3, hk3⟩ := box3 w #[.int .i64 oi, .string on, .slice p fs.length cap] #[.int .i64 ni, .string nn, .slice p2 gs.length cap2] #[.int .i64 rn, .int .i64 ro, .slice q es.length qc] 24 24 27
  have HK := hid hk3
  have HD : Hid (∀ wy, Keep (fun _ => False) w3 wy → FP wy wy.heap.size p fs ∧ FP wy wy.heap.size p2 gs ∧ EP wy wy.heap.size q es) := hid (fun wy hk =>
    ⟨FP.mono (FP.low hf (Low.keep0 (hk3.trans hk))) (hk3.trans hk).size, FP.mono (FP.low hf2 (Low.keep0 (hk3.trans hk))) (hk3.trans hk).size, EP.mono (EP.low hc (Low.keep0 (hk3.trans hk))) (hk3.trans hk).size⟩)
  have HX := hid hfit; have HL := hid hl
  have HRC : Hid (ruleC ⟨oi, on, fs⟩ ⟨ni, nn, gs⟩ ⟨rn, ro, es⟩ = if ro = 0 then 0 else if es.length = gs.length then ruleRun ⟨oi, on, fs⟩ gs es else 4) := hid rfl
  clear hf hf2 hc hfit hk3 hs3
  go_enter Try.func8, Try.ntmps8
  go_upto_region 1 with fail
  rw [← hw3]
  clear hw3
  generalize w.heap.size = sb at *
  have HW : Hid (∀ wy, Keep (fun _ => False) w3 wy → (wy.cell? ⟨sb, 0, none⟩ = some (.int .i64 oi) ∧ wy.cell? ⟨sb, 1, none⟩ = some (.string on) ∧ wy.cell? ⟨sb, 2, none⟩ = some (.slice p fs.length cap)) ∧ wy.cell? ⟨sb + 1, 2, none⟩ = some (.slice p2 gs.length cap2) ∧ wy.cell? ⟨sb + 1 + 1, 1, none⟩ = some (.int .i64 ro) ∧ wy.cell? ⟨sb + 1 + 1, 2, none⟩ = some (.slice q es.length qc)) := hid (fun wy hk =>
    ⟨⟨cell_of (hk.get hb1 id) (by rfl), cell_of (hk.get hb1 id) (by rfl), cell_of (hk.get hb1 id) (by rfl)⟩, cell_of (hk.get hb2 id) (by rfl), cell_of (hk.get hb3 id) (by rfl), cell_of (hk.get hb3 id) (by rfl)⟩)
  clear hb1 hb2 hb3
  obtain ⟨⟨s0, s1, s2⟩, s3, s4, s5⟩ := HW.out _ (Keep.refl _ _)
  by_cases h0 : ro = 0
  · have G := hid (HRC.out.trans (if_pos h0))
    subst h0
    go_wp2
    go_ret
    exact ⟨by rw [G.out]; rfl, HK.out⟩
  have g0 : (ro == 0) = false := beq_eq_false_iff_ne.2 h0
  by_cases h1 : es.length = gs.length
  rotate_left
  · have G := hid (HRC.out.trans ((if_neg h0).trans (if_neg h1)))
    have g1 : ((es.length : Int) != (gs.length : Int)) = true := by simp only [bne, beq_eq_false_iff_ne.2 (show (es.length : Int) ≠ (gs.length : Int) by omega)]; rfl
    have g2 : (es.length != gs.length) = true := by simp only [bne, beq_eq_false_iff_ne.2 h1]; rfl
    go_wp2
    go_ret
    exact ⟨by rw [G.out]; rfl, HK.out⟩
  have G := hid (HRC.out.trans ((if_neg h0).trans (if_pos h1)))
  rw [h1] at s5 HW
  have HEL := hid h1
  clear HRC h1
  go_wp2_with fail
  clear s0 s1 s2 s3 s4 s5 g0
  go_loopw [7, 8, 9, 25] (fun _ _ _ i wr => ∃ k : Nat, k ≤ gs.length ∧ i = iV k ∧ ruleRun ⟨oi, on, fs⟩ gs es = ruleRun ⟨oi, on, fs⟩ (gs.drop k) (es.drop k) ∧ Keep (fun _ => False) w3 wr) (fun _ _ _ i _ => gs.length + 1 - (intOf i).toNat)
  case atStart => exact ⟨0, Nat.zero_le _, rfl, rfl, Keep.refl _ _⟩
  case round =>
    obtain ⟨k, hk, rfl, heq, hkr⟩ := hrel
    have HEQ := hid heq; have HKR := hid hkr
    clear heq hkr
    by_cases hlt : k < gs.length
    · obtain ⟨g, hgk⟩ : ∃ g, gs[k]? = some g := ⟨gs[k], by simp [hlt]⟩
      obtain ⟨e, hek⟩ : ∃ e, es[k]? = some e := ⟨es[k]'(by have := HEL.out; omega), by simp [show k < es.length by have := HEL.out; omega]⟩
      have HEX := hid (show ruleRun ⟨oi, on, fs⟩ gs es = if formC ⟨oi, on, fs⟩ g e = 0 then ruleRun ⟨oi, on, fs⟩ (gs.drop (k + 1)) (es.drop (k + 1)) else formC ⟨oi, on, fs⟩ g e by rw [HEQ.out, drop_next hgk, drop_next hek]; rfl)
      have HXE := hid (HX.out e (List.mem_of_getElem? hek))
      obtain ⟨b, off, rfl, hb, c0, c1, c2⟩ := FP.at (HD.out _ HKR.out).2.1 hgk
      have hin : (0 : Int) ≤ (k : Int) ∧ (k : Int) < (gs.length : Int) := ⟨by omega, by omega⟩
      clear hgk hb HEQ
      obtain ⟨gn, gk, gc⟩ := g
      simp only at c0 c1 c2
      obtain ⟨w4, hw4, hb4, hs4, hk4⟩ := box1 wr #[.string gn, .int .i64 gk, .int .i64 gc] 49
      have HK4 := hid (HKR.out.trans hk4)
      clear hk4 hs4
      go_upto_region 8 with fail
      rw [← hw4]
      clear hw4 c0 c1 c2
      generalize wr.heap.size = gb at *
      have s6 : w4.drew.cell? ⟨gb, 0, none⟩ = some (.string gn) := cell_of hb4 (by rfl)
      have s7 : w4.drew.cell? ⟨gb, 1, none⟩ = some (.int .i64 gk) := cell_of hb4 (by rfl)
      have s8 : w4.drew.cell? ⟨gb, 2, none⟩ = some (.int .i64 gc) := cell_of hb4 (by rfl)
      obtain ⟨⟨s0, s1, s2⟩, s3, s4, s5⟩ := HW.out _ HK4.out.drew
      obtain ⟨eb, eo, eq, ec, rfl, hb2, e0, hec, he⟩ := EP.at (HD.out _ HK4.out.drew).2.2 hek
      have HE := hid he
      clear he hec hb2 hek hb4 s3 s4
      refine Plan.wp_region_pl [(false, 0, []), (false, 1, []), (false, 2, []), (false, 3, []), (false, 4, []), (false, 5, []), (false, 6, []), (true, 7, []), (false, 8, [])] (by kernel_rfl) (by kernel_rfl) ?_
      iterate 7 (refine Plan.pl_st rfl ?_; go_big_quiet_step (fail); refine wpQuiet_nil ?_)
      refine Plan.pl_ac rfl ?_
      go_wp2_with fail
      refine (chk_formula ⟨oi, on, fs⟩ ⟨gn, gk, gc⟩ e p cap eq ec _ HL.out HXE.out (HD.out _ HK4.out.drew).1 HE.out).mono ?_
      rintro r w5 ⟨rfl, hk5⟩
      have HK5 := hid (HK4.out.drew.trans hk5)
      clear hk5 s0 s1 s2 s5 s6 s7 s8 e0
      go_wp2
      refine Plan.plQ_mk Plan.chk_end ?_
      iterate 1 (refine Plan.pl_st rfl ?_; go_big_quiet_step (fail); refine wpQuiet_nil ?_)
      refine Plan.pl_end ?_
      by_cases hz : formC ⟨oi, on, fs⟩ ⟨gn, gk, gc⟩ e = 0
      · have G3 := hid (HEX.out.trans (if_pos hz))
        rw [hz]
        clear hz
        go_wp2
        go_roundw
        case rel => exact ⟨k + 1, by omega, by go_num, G3.out, HK5.out⟩
        case measure => simp [intOf]; omega
      · have G3 := hid (HEX.out.trans (if_neg hz))
        have G4 := hid (G.out.trans G3.out)
        clear HEX G G3
        generalize formC ⟨oi, on, fs⟩ ⟨gn, gk, gc⟩ e = er at *
        have g1 : ((er : Int) != 0) = true := by simp only [bne, beq_eq_false_iff_ne.2 (show (er : Int) ≠ 0 by omega)]; rfl
        have g2 : (er != 0) = true := by simp only [bne, beq_eq_false_iff_ne.2 hz]; rfl
        go_wp2
        go_ret
        exact ⟨by rw [G4.out]; rfl, HK.out.trans HK5.out⟩
    · obtain rfl : k = gs.length := by omega
      have G3 : Hid (ruleC ⟨oi, on, fs⟩ ⟨ni, nn, gs⟩ ⟨rn, ro, es⟩ = 0) := hid (by rw [G.out, HEQ.out, List.drop_length]; rfl)
      have g0 : decide ((gs.length : Int) < (gs.length : Int)) = false := decide_eq_false (by omega)
      go_wp2
      go_ret
      exact ⟨by rw [G3.out]; rfl, HK.out.trans HKR.out⟩
end Go.Proofs.Ytenoeondfdiklaa
