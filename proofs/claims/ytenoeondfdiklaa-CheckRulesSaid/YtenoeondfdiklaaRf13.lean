/- What is proved: what Formula of the document's check answers. -/
import Derived.Test.YtenoeondfdiklaaRf11
namespace Go.Proofs.Ytenoeondfdiklaa
open Go.RowKit Go.Proofs.Heap Go.Proofs.Sch Go.Proofs.Wide

theorem usesL_cons (x : Ins) (r : List Ins) : usesL (x :: r) = if useB x = true then x :: usesL r else usesL r := by
  unfold usesL
  rw [List.filter_cons]
theorem errU_next (old : Cmp) (f : Fld) {code : List Ins} {k : Nat} {x : Ins} (h : code[k]? = some x) :
    errU old f (usesL (code.drop k)) = if useB x = true then (if useC old f x = 0 then errU old f (usesL (code.drop (k + 1))) else useC old f x) else errU old f (usesL (code.drop (k + 1))) := by
  rw [drop_next h, usesL_cons]
  by_cases hu : useB x = true
  · rw [if_pos hu, if_pos hu]; rfl
  · rw [if_neg hu, if_neg hu]
theorem handle_one (x : Ins) (r : List Ins) : handleB (x :: r) = (decide (r = []) && (decide (x.op ≠ 4) && (decide (x.op ≠ 1) || (!x.k.neg && (decide (x.k.hi = 0) && decide (x.k.lo = 0)))))) := by
  cases r with
  | nil => rfl
  | cons y s => rfl

set_option maxRecDepth 20000 in
set_option maxHeartbeats 8000000 in
theorem rf_formula (old : Cmp) (f : Fld) (code : List Ins) (p : Option Addr) (cap : Nat) (q : Option Addr) (qc : Nat) (w : World) (hl : old.fs.length ≤ 65536) (hfit : ∀ x ∈ code, x.k.fit) (hf : FP w w.heap.size p old.fs) (hc : IP w w.heap.size q code) :
    Calls Try.prog 11 #[.agg #[.int .i64 old.id, .string old.name, .slice p old.fs.length cap], .agg #[.string f.name, .int .i64 f.kind, .int .i64 f.count], .slice q code.length qc] w fun r w' => r = .returned (iV (formC old f code)) ∧ Keep (fun _ => False) w w' := by
  obtain ⟨oi, on, fs⟩ := old
  obtain ⟨fn, fk, fc⟩ := f
  simp only at hl hf
  obtain ⟨w0, hw0, hb1, hb2, hs0, hk0⟩ := box2 w #[.int .i64 oi, .string on, .slice p fs.length cap] #[.string fn, .int .i64 fk, .int .i64 fc] 24 49
  have HK0 := hid hk0
  have HD : Hid (∀ wy, Keep (fun _ => False) w0 wy → FP wy wy.heap.size p fs ∧ IP wy wy.heap.size q code) := hid (fun wy hk => ⟨FP.mono (FP.low hf (Low.keep0 (hk0.trans hk))) (hk0.trans hk).size, IP.mono (IP.low hc (Low.keep0 (hk0.trans hk))) (hk0.trans hk).size⟩)
  have HX := hid hfit; have HL := hid hl
  clear hf hc hfit hs0 hk0
  go_enter Try.func11, Try.ntmps11
  go_upto_region 1 with fail
  rw [← hw0]
  clear hw0
  generalize w.heap.size = sb at *
  have HW : Hid (∀ wy, Keep (fun _ => False) w0 wy → wy.cell? ⟨sb, 2, none⟩ = some (.slice p fs.length cap) ∧ wy.cell? ⟨sb + 1, 1, none⟩ = some (.int .i64 fk) ∧ wy.cell? ⟨sb + 1, 2, none⟩ = some (.int .i64 fc)) := hid (fun wy hk =>
    ⟨cell_of (hk.get hb1 id) (by rfl), cell_of (hk.get hb2 id) (by rfl), cell_of (hk.get hb2 id) (by rfl)⟩)
  clear hb1 hb2
  go_wp2_with fail
  refine (rf_check code q qc _ HX.out (HD.out _ (Keep.refl _ _)).2).mono ?_
  rintro r w1 ⟨rfl, hk1⟩
  have HK1 := hid hk1
  clear hk1
  by_cases hz : exprC code = 0
  rotate_left
  · have G : Hid (formC ⟨oi, on, fs⟩ ⟨fn, fk, fc⟩ code = exprC code) := hid (by unfold formC; rw [if_neg hz])
    generalize exprC code = e at *
    have g1 : ((e : Int) != 0) = true := by simp only [bne, beq_eq_false_iff_ne.2 (show (e : Int) ≠ 0 by omega)]; rfl
    have g2 : (e != 0) = true := by simp only [bne, beq_eq_false_iff_ne.2 hz]; rfl
    go_wp2
    go_ret
    exact ⟨by rw [G.out]; rfl, HK0.out.trans HK1.out⟩
  have HALL := hid (exprC_all hz)
  have HFC : Hid (formC ⟨oi, on, fs⟩ ⟨fn, fk, fc⟩ code = if errU ⟨oi, on, fs⟩ ⟨fn, fk, fc⟩ (usesL code) = 0 then (if fk = 10 ∧ handleB code = false then 8 else 0) else errU ⟨oi, on, fs⟩ ⟨fn, fk, fc⟩ (usesL code)) := hid (by unfold formC; rw [if_pos hz])
  rw [hz]
  clear hz
  have hcl : code.length ≤ 65536 := by have := HALL.out.2.1; omega
  obtain ⟨d2, d3, d4⟩ := HW.out _ HK1.out
  obtain ⟨rb, hrb⟩ : ∃ rb, (fk == 10) = rb := ⟨_, rfl⟩
  have HRB := hid hrb
  go_wp2_with fail
  clear hrb d2 d3 d4
  go_loopw [9, 10, 11] (fun i _ _ wr => ∃ k : Nat, k ≤ code.length ∧ i = iV k ∧ errU ⟨oi, on, fs⟩ ⟨fn, fk, fc⟩ (usesL code) = errU ⟨oi, on, fs⟩ ⟨fn, fk, fc⟩ (usesL (code.drop k)) ∧ Keep (fun _ => False) w1 wr) (fun i _ _ _ => code.length + 1 - (intOf i).toNat)
  case atStart => exact ⟨0, Nat.zero_le _, rfl, rfl, Keep.refl _ _⟩
  case round =>
    obtain ⟨k, hk, rfl, heq, hkr⟩ := hrel
    have HEQ := hid heq; have HKR := hid hkr
    clear heq hkr
    by_cases hlt : k < code.length
    · obtain ⟨x, hxk⟩ : ∃ x, code[k]? = some x := ⟨code[k], by simp [hlt]⟩
      have HEX := hid (HEQ.out.trans (errU_next ⟨oi, on, fs⟩ ⟨fn, fk, fc⟩ hxk))
      have hxa := (insB_a (HALL.out.2.2 x (List.mem_of_getElem? hxk))).1.1
      obtain ⟨b, off, rfl, hb, c0, c1, c2, c3, c4, c5⟩ := IP.at (HD.out _ (HK1.out.trans HKR.out)).2 hxk
      have hin : (0 : Int) ≤ (k : Int) ∧ (k : Int) < (code.length : Int) := ⟨by omega, by omega⟩
      clear hxk hb HEQ
      obtain ⟨op, xa, xb, ⟨kn, kh, kl⟩⟩ := x
      simp only at c0 c1 c2 c3 c4 c5 hxa
      obtain ⟨an, rfl⟩ := Int.eq_ofNat_of_zero_le hxa
      obtain ⟨w3, hw3, hb3, hs3, hk3⟩ := box1 wr #[.int .i64 op, .int .i64 (an : Int), .int .i64 xb, .bool kn, .int .u64 (kh : Int), .int .u64 (kl : Int)] 71
      have HK3 := hid (HKR.out.trans hk3)
      have HB3 := hid hb3
      clear hs3 hk3 hb3 hxa
      go_upto_region 9 with fail
      rw [← hw3]
      clear hw3 c0 c1 c2 c3 c4 c5
      generalize wr.heap.size = xbk at *
      have s0 : w3.cell? ⟨xbk, 0, none⟩ = some (.int .i64 op) := cell_of HB3.out (by rfl)
      have s1 : w3.cell? ⟨xbk, 1, none⟩ = some (.int .i64 (an : Int)) := cell_of HB3.out (by rfl)
      by_cases h23 : op = 2 ∨ op = 3
      rotate_left
      · have g1 : (op != 2) = true := by simp only [bne, beq_eq_false_iff_ne.2 (show op ≠ 2 by omega)]; rfl
        have g2 : (op != 3) = true := by simp only [bne, beq_eq_false_iff_ne.2 (show op ≠ 3 by omega)]; rfl
        have G := hid (HEX.out.trans (if_neg (by unfold useB; simpa using h23)))
        clear h23
        go_wp2
        go_roundw
        case rel => exact ⟨k + 1, by omega, by go_num, G.out, HK3.out⟩
        case measure => simp [intOf]; omega
      have HE2 := hid (HEX.out.trans (if_pos (by unfold useB; simpa using h23)))
      clear HEX
      obtain ⟨d2, d3, d4⟩ := HW.out _ (HK1.out.trans HK3.out)
      by_cases hfl : an < fs.length
      rotate_left
      · have g3 : decide ((fs.length : Int) ≤ (an : Int)) = true := decide_eq_true (by omega)
        have g4 : decide (fs.length ≤ an) = true := decide_eq_true (by omega)
        have GU : Hid (useC ⟨oi, on, fs⟩ ⟨fn, fk, fc⟩ ⟨op, (an : Int), xb, ⟨kn, kh, kl⟩⟩ = 3) := hid (by
          unfold useC; simp only [Int.toNat_natCast]; rw [List.getElem?_eq_none (by omega)])
        have GE : Hid (errU ⟨oi, on, fs⟩ ⟨fn, fk, fc⟩ (usesL code) = 3) := hid (by rw [HE2.out, GU.out]; rfl)
        have G : Hid (formC ⟨oi, on, fs⟩ ⟨fn, fk, fc⟩ code = 3) := hid (by rw [HFC.out, GE.out]; rfl)
        rcases h23 with rfl | rfl
        all_goals
          go_wp2
          go_ret
          exact ⟨by rw [G.out]; rfl, HK0.out.trans (HK1.out.trans HK3.out)⟩
      have g3 : decide ((fs.length : Int) ≤ (an : Int)) = false := decide_eq_false (by omega)
      have g4 : decide (fs.length ≤ an) = false := decide_eq_false (by omega)
      obtain ⟨g, hg⟩ : ∃ g, fs[an]? = some g := ⟨fs[an], by simp [hfl]⟩
      have HU : Hid (useC ⟨oi, on, fs⟩ ⟨fn, fk, fc⟩ ⟨op, (an : Int), xb, ⟨kn, kh, kl⟩⟩ = if (op = 2 ∧ g.count ≤ xb) ∨ (op = 3 ∧ g.count < fc) then 3 else if decide (g.kind = 10) = decide (fk = 10) then 0 else 8) := hid (by
        unfold useC; simp only [Int.toNat_natCast]; rw [hg])
      obtain ⟨fb, fo, rfl, hb4, c0, c1, c2⟩ := FP.at (HD.out _ (HK1.out.trans HK3.out)).1 hg
      have hin2 : (0 : Int) ≤ (an : Int) ∧ (an : Int) < (fs.length : Int) := ⟨by omega, by omega⟩
      clear hg hb4
      obtain ⟨gn, gk, gc⟩ := g
      simp only at c0 c1 c2 HU
      obtain ⟨w4, hw4, hb4, hs4, hk4⟩ := box1 w3 #[.string gn, .int .i64 gk, .int .i64 gc] 49
      have HK4 := hid (HK3.out.trans hk4)
      have HB3' := hid (hk4.get HB3.out id)
      have HB4 := hid hb4
      clear hs4 hk4 hb4
      have H23 := hid h23
      rcases h23 with rfl | rfl
      all_goals
        go_upto_region 13 with fail
        rw [← hw4]
        clear hw4 c0 c1 c2 s0 s1 d2 d3 d4 g3 g4
        generalize w3.heap.size = gb at *
        obtain ⟨d2, d3, d4⟩ := HW.out _ (HK1.out.trans HK4.out)
        have x0 : w4.cell? ⟨xbk, 0, none⟩ = some (.int .i64 _) := cell_of HB3'.out (by rfl)
        have x2 : w4.cell? ⟨xbk, 2, none⟩ = some (.int .i64 xb) := cell_of HB3'.out (by rfl)
        have y1 : w4.cell? ⟨gb, 1, none⟩ = some (.int .i64 gk) := cell_of HB4.out (by rfl)
        have y2 : w4.cell? ⟨gb, 2, none⟩ = some (.int .i64 gc) := cell_of HB4.out (by rfl)
        clear HB3 HB3' HB4
      · by_cases hle : gc ≤ xb
        · have q1 : decide (gc ≤ xb) = true := decide_eq_true hle
          have GU := hid (HU.out.trans (if_pos (.inl ⟨rfl, hle⟩)))
          have GE : Hid (errU ⟨oi, on, fs⟩ ⟨fn, fk, fc⟩ (usesL code) = 3) := hid (by rw [HE2.out, GU.out]; rfl)
          have G : Hid (formC ⟨oi, on, fs⟩ ⟨fn, fk, fc⟩ code = 3) := hid (by rw [HFC.out, GE.out]; rfl)
          clear HE2 HU HFC GU GE
          go_wp2
          go_ret
          exact ⟨by rw [G.out]; rfl, HK0.out.trans (HK1.out.trans HK4.out)⟩
        have q1 : decide (gc ≤ xb) = false := decide_eq_false hle
        have HU2 := hid (HU.out.trans (if_neg (by omega)))
        clear HU hle
        by_cases hk10 : fk = 10
        · obtain rfl : rb = true := by rw [← HRB.out]; simpa using hk10
          by_cases hg10 : gk = 10
          · have q2 : (gk != 10) = false := by simp only [bne, beq_iff_eq.2 hg10]; rfl
            have q3 : (gk == 10) = true := beq_iff_eq.2 hg10
            have G := hid (HE2.out.trans (if_pos (HU2.out.trans (if_pos (by rw [decide_eq_true hg10, decide_eq_true hk10])))))
            clear HE2 HU2 hk10 hg10
            go_wp2
            go_roundw
            case rel => exact ⟨k + 1, by omega, by go_num, G.out, HK4.out⟩
            case measure => simp [intOf]; omega
          · have q2 : (gk != 10) = true := by simp only [bne, beq_eq_false_iff_ne.2 hg10]; rfl
            have q3 : (gk == 10) = false := beq_eq_false_iff_ne.2 hg10
            have GU := hid (HU2.out.trans (if_neg (show ¬ (decide (gk = 10) = decide (fk = 10)) by rw [decide_eq_false hg10, decide_eq_true hk10]; simp)))
            have GE : Hid (errU ⟨oi, on, fs⟩ ⟨fn, fk, fc⟩ (usesL code) = 8) := hid (by rw [HE2.out, GU.out]; rfl)
            have G : Hid (formC ⟨oi, on, fs⟩ ⟨fn, fk, fc⟩ code = 8) := hid (by rw [HFC.out, GE.out]; rfl)
            clear HE2 HU2 GU GE hk10 hg10
            go_wp2
            go_ret
            exact ⟨by rw [G.out]; rfl, HK0.out.trans (HK1.out.trans HK4.out)⟩
        · obtain rfl : rb = false := by rw [← HRB.out]; simpa using hk10
          by_cases hg10 : gk = 10
          · have q2 : (gk != 10) = false := by simp only [bne, beq_iff_eq.2 hg10]; rfl
            have q3 : (gk == 10) = true := beq_iff_eq.2 hg10
            have GU := hid (HU2.out.trans (if_neg (show ¬ (decide (gk = 10) = decide (fk = 10)) by rw [decide_eq_true hg10, decide_eq_false hk10]; simp)))
            have GE : Hid (errU ⟨oi, on, fs⟩ ⟨fn, fk, fc⟩ (usesL code) = 8) := hid (by rw [HE2.out, GU.out]; rfl)
            have G : Hid (formC ⟨oi, on, fs⟩ ⟨fn, fk, fc⟩ code = 8) := hid (by rw [HFC.out, GE.out]; rfl)
            clear HE2 HU2 GU GE hk10 hg10
            go_wp2
            go_ret
            exact ⟨by rw [G.out]; rfl, HK0.out.trans (HK1.out.trans HK4.out)⟩
          · have q2 : (gk != 10) = true := by simp only [bne, beq_eq_false_iff_ne.2 hg10]; rfl
            have q3 : (gk == 10) = false := beq_eq_false_iff_ne.2 hg10
            have G := hid (HE2.out.trans (if_pos (HU2.out.trans (if_pos (by rw [decide_eq_false hg10, decide_eq_false hk10])))))
            clear HE2 HU2 hk10 hg10
            go_wp2
            go_roundw
            case rel => exact ⟨k + 1, by omega, by go_num, G.out, HK4.out⟩
            case measure => simp [intOf]; omega
      · by_cases hle : gc < fc
        · have q1 : decide (gc < fc) = true := decide_eq_true hle
          have GU := hid (HU.out.trans (if_pos (.inr ⟨rfl, hle⟩)))
          have GE : Hid (errU ⟨oi, on, fs⟩ ⟨fn, fk, fc⟩ (usesL code) = 3) := hid (by rw [HE2.out, GU.out]; rfl)
          have G : Hid (formC ⟨oi, on, fs⟩ ⟨fn, fk, fc⟩ code = 3) := hid (by rw [HFC.out, GE.out]; rfl)
          clear HE2 HU HFC GU GE
          go_wp2
          go_ret
          exact ⟨by rw [G.out]; rfl, HK0.out.trans (HK1.out.trans HK4.out)⟩
        have q1 : decide (gc < fc) = false := decide_eq_false hle
        have HU2 := hid (HU.out.trans (if_neg (by omega)))
        clear HU hle
        by_cases hk10 : fk = 10
        · obtain rfl : rb = true := by rw [← HRB.out]; simpa using hk10
          by_cases hg10 : gk = 10
          · have q2 : (gk != 10) = false := by simp only [bne, beq_iff_eq.2 hg10]; rfl
            have q3 : (gk == 10) = true := beq_iff_eq.2 hg10
            have G := hid (HE2.out.trans (if_pos (HU2.out.trans (if_pos (by rw [decide_eq_true hg10, decide_eq_true hk10])))))
            clear HE2 HU2 hk10 hg10
            go_wp2
            go_roundw
            case rel => exact ⟨k + 1, by omega, by go_num, G.out, HK4.out⟩
            case measure => simp [intOf]; omega
          · have q2 : (gk != 10) = true := by simp only [bne, beq_eq_false_iff_ne.2 hg10]; rfl
            have q3 : (gk == 10) = false := beq_eq_false_iff_ne.2 hg10
            have GU := hid (HU2.out.trans (if_neg (show ¬ (decide (gk = 10) = decide (fk = 10)) by rw [decide_eq_false hg10, decide_eq_true hk10]; simp)))
            have GE : Hid (errU ⟨oi, on, fs⟩ ⟨fn, fk, fc⟩ (usesL code) = 8) := hid (by rw [HE2.out, GU.out]; rfl)
            have G : Hid (formC ⟨oi, on, fs⟩ ⟨fn, fk, fc⟩ code = 8) := hid (by rw [HFC.out, GE.out]; rfl)
            clear HE2 HU2 GU GE hk10 hg10
            go_wp2
            go_ret
            exact ⟨by rw [G.out]; rfl, HK0.out.trans (HK1.out.trans HK4.out)⟩
        · obtain rfl : rb = false := by rw [← HRB.out]; simpa using hk10
          by_cases hg10 : gk = 10
          · have q2 : (gk != 10) = false := by simp only [bne, beq_iff_eq.2 hg10]; rfl
            have q3 : (gk == 10) = true := beq_iff_eq.2 hg10
            have GU := hid (HU2.out.trans (if_neg (show ¬ (decide (gk = 10) = decide (fk = 10)) by rw [decide_eq_true hg10, decide_eq_false hk10]; simp)))
            have GE : Hid (errU ⟨oi, on, fs⟩ ⟨fn, fk, fc⟩ (usesL code) = 8) := hid (by rw [HE2.out, GU.out]; rfl)
            have G : Hid (formC ⟨oi, on, fs⟩ ⟨fn, fk, fc⟩ code = 8) := hid (by rw [HFC.out, GE.out]; rfl)
            clear HE2 HU2 GU GE hk10 hg10
            go_wp2
            go_ret
            exact ⟨by rw [G.out]; rfl, HK0.out.trans (HK1.out.trans HK4.out)⟩
          · have q2 : (gk != 10) = true := by simp only [bne, beq_eq_false_iff_ne.2 hg10]; rfl
            have q3 : (gk == 10) = false := beq_eq_false_iff_ne.2 hg10
            have G := hid (HE2.out.trans (if_pos (HU2.out.trans (if_pos (by rw [decide_eq_false hg10, decide_eq_false hk10])))))
            clear HE2 HU2 hk10 hg10
            go_wp2
            go_roundw
            case rel => exact ⟨k + 1, by omega, by go_num, G.out, HK4.out⟩
            case measure => simp [intOf]; omega
    · obtain rfl : k = code.length := by omega
      have HE0 : Hid (errU ⟨oi, on, fs⟩ ⟨fn, fk, fc⟩ (usesL code) = 0) := hid (by rw [HEQ.out, List.drop_length]; rfl)
      have HF2 := hid (HFC.out.trans (if_pos HE0.out))
      have g0 : decide ((code.length : Int) < (code.length : Int)) = false := decide_eq_false (by omega)
      clear HEQ HE0 HFC
      by_cases h10 : fk = 10
      rotate_left
      · obtain rfl : rb = false := by rw [← HRB.out]; simpa using h10
        have G := hid (HF2.out.trans (if_neg (fun h => h10 h.1)))
        go_wp2
        go_ret
        exact ⟨by rw [G.out]; rfl, HK0.out.trans (HK1.out.trans HKR.out)⟩
      obtain rfl : rb = true := by rw [← HRB.out]; simpa using h10
      have HF3 : Hid (formC ⟨oi, on, fs⟩ ⟨fn, fk, fc⟩ code = if handleB code = false then 8 else 0) := hid (by
        rw [HF2.out]; cases handleB code <;> simp [h10])
      obtain ⟨x, r, hxr⟩ : ∃ x r, code = x :: r := by
        have := HALL.out.1
        cases code with | nil => exact absurd rfl this | cons x r => exact ⟨x, r, rfl⟩
      obtain ⟨b, off, rfl, hb, c0, c1, c2, c3, c4, c5⟩ := IP.at (HD.out _ (HK1.out.trans HKR.out)).2 (i := 0) (x := x) (by rw [hxr]; rfl)
      obtain ⟨op, xa, xb, ⟨kn, kh, kl⟩⟩ := x
      simp only at c0 c1 c2 c3 c4 c5
      rw [Nat.zero_mul, Nat.add_zero] at c0 c1 c2 c3 c4 c5
      have HH := hid (show handleB code = _ by rw [hxr, handle_one])
      have HLN : Hid (code.length = 1 ↔ r = []) := hid (by rw [hxr]; cases r <;> simp)
      have hin : (0 : Int) ≤ 0 ∧ (0 : Int) < (code.length : Int) := ⟨by omega, by rw [hxr]; simp⟩
      clear hxr hb HF2 h10
      generalize handleB code = hb at *
      generalize hn : code.length = n at *
      clear hn
      by_cases h1 : n = 1
      rotate_left
      · have g1 : ((n : Int) != 1) = true := by simp only [bne, beq_eq_false_iff_ne.2 (show (n : Int) ≠ 1 by omega)]; rfl
        have g2 : (n != 1) = true := by simp only [bne, beq_eq_false_iff_ne.2 h1]; rfl
        have G : Hid (formC ⟨oi, on, fs⟩ ⟨fn, fk, fc⟩ code = 8) := hid (by
          rw [HF3.out, HH.out, decide_eq_false (fun e => h1 (HLN.out.2 e))]; rfl)
        clear c1 c2 c3 c4 c5 HF3 HH
        go_wp2
        go_ret
        exact ⟨by rw [G.out]; rfl, HK0.out.trans (HK1.out.trans HKR.out)⟩
      have HH1 := hid (HH.out.trans (by rw [decide_eq_true (HLN.out.1 h1), Bool.true_and]))
      subst h1
      clear HH
      by_cases h4 : op = 4
      · subst h4
        have G : Hid (formC ⟨oi, on, fs⟩ ⟨fn, fk, fc⟩ code = 8) := hid (by rw [HF3.out, HH1.out]; rfl)
        clear HF3 HH1
        go_wp2
        go_ret
        exact ⟨by rw [G.out]; rfl, HK0.out.trans (HK1.out.trans HKR.out)⟩
      have g4 : (op == 4) = false := beq_eq_false_iff_ne.2 h4
      by_cases h5 : op = 1
      rotate_left
      · have g5 : (op == 1) = false := beq_eq_false_iff_ne.2 h5
        have G : Hid (formC ⟨oi, on, fs⟩ ⟨fn, fk, fc⟩ code = 0) := hid (by rw [HF3.out, HH1.out]; simp [h4, h5])
        clear HF3 HH1
        go_wp2
        go_ret
        exact ⟨by rw [G.out]; rfl, HK0.out.trans (HK1.out.trans HKR.out)⟩
      subst h5
      have HZ : Hid (formC ⟨oi, on, fs⟩ ⟨fn, fk, fc⟩ code = if (!kn && (decide (kh = 0) && decide (kl = 0))) = false then 8 else 0) := hid (by rw [HF3.out, HH1.out]; rfl)
      clear HF3 HH1
      cases kn
      · by_cases hh : kh = 0
        · subst hh
          by_cases hk0 : kl = 0
          · subst hk0
            have G : Hid (formC ⟨oi, on, fs⟩ ⟨fn, fk, fc⟩ code = 0) := hid (by rw [HZ.out]; rfl)
            go_wp2
            go_ret
            exact ⟨by rw [G.out]; rfl, HK0.out.trans (HK1.out.trans HKR.out)⟩
          · have q1 : ((kl : Int) == 0) = false := beq_eq_false_iff_ne.2 (by omega)
            have q2 : (kl == 0) = false := beq_eq_false_iff_ne.2 hk0
            have G : Hid (formC ⟨oi, on, fs⟩ ⟨fn, fk, fc⟩ code = 8) := hid (by rw [HZ.out, decide_eq_false hk0]; rfl)
            go_wp2
            go_ret
            exact ⟨by rw [G.out]; rfl, HK0.out.trans (HK1.out.trans HKR.out)⟩
        · have q1 : ((kh : Int) == 0) = false := beq_eq_false_iff_ne.2 (by omega)
          have q2 : (kh == 0) = false := beq_eq_false_iff_ne.2 hh
          have G : Hid (formC ⟨oi, on, fs⟩ ⟨fn, fk, fc⟩ code = 8) := hid (by rw [HZ.out, decide_eq_false hh]; rfl)
          go_wp2
          go_ret
          exact ⟨by rw [G.out]; rfl, HK0.out.trans (HK1.out.trans HKR.out)⟩
      · have G : Hid (formC ⟨oi, on, fs⟩ ⟨fn, fk, fc⟩ code = 8) := hid (by rw [HZ.out]; rfl)
        go_wp2
        go_ret
        exact ⟨by rw [G.out]; rfl, HK0.out.trans (HK1.out.trans HKR.out)⟩
end Go.Proofs.Ytenoeondfdiklaa
