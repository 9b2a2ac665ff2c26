/- What is proved: the document's Find, Check and Line of rules. -/
import Derived.Test.YtlhdofkgcbmnnaaGreatDoorMRuFind
import Derived.Test.YtlhdofkgcbmnnaaGreatDoorMRf11Enc
import Derived.Test.YtlhdofkgcbmnnaaGreatDoorMRuAwake
import Derived.Test.YtlhdofkgcbmnnaaGreatDoorMRul1
import Derived.Test.YtlhdofkgcbmnnaaGreatDoorMTakes
namespace Go.Proofs.YtlhdofkgcbmnnaaGreatDoor
open Go.RowKit Go.Proofs.Heap Go.Proofs.Sch Go.Proofs.Wide

set_option maxRecDepth 20000 in
set_option maxHeartbeats 8000000 in
theorem r_find12 (a b : Int) (rs : List Rul) (q : Option Addr) (qc : Nat) (id : Int) (w : World) (hl : rs.length ≤ 65536) (hq : UP w w.heap.size q rs) :
    Calls Tryz.prog 17 #[PgV a b q rs.length qc, .int .i64 id] w fun r w' => r = .returned (.int .i64 (idxI (newIs id) rs)) ∧ Keep (fun _ => False) w w' := by
  obtain ⟨w1, hw1, hb1, hs1, hk1⟩ := box1 w #[.int .i64 a, .int .i64 b, .slice q rs.length qc] 29
  have HK1 := hid hk1; have HB1 := hid hb1
  have HU : Hid (∀ wy, Keep (fun _ => False) w wy → UP wy wy.heap.size q rs) := hid (fun wy hk => UP.mono (UP.low hq (Low.keep0 hk)) hk.size)
  have HAT := hid (fun k x (h : rs[k]? = some x) (h1 : newIs id x = true) (h2 : ∀ y ∈ rs.take k, newIs id y = false) => idx_at h h1 h2)
  have HNO := hid (fun (h : ∀ y ∈ rs, newIs id y = false) => idx_none h)
  generalize idxI (newIs id) rs = R at *
  clear hb1 hs1 hk1 hq
  go_enter Tryz.func17, Tryz.ntmps17
  go_upto_region 1 with fail
  rw [← hw1]
  clear hw1
  generalize w.heap.size = sb at *
  have HC : Hid (∀ wy, Keep (fun _ => False) w1 wy → wy.cell? ⟨sb, 2, none⟩ = some (.slice q rs.length qc)) := hid (fun wy hk => cell_of (hk.get HB1.out (fun e => e)) (by rfl))
  go_wp2_with fail
  go_loopw [5] (fun i wr => ∃ k : Nat, k ≤ rs.length ∧ i = iV k ∧ (∀ y ∈ rs.take k, newIs id y = false) ∧ Keep (fun _ => False) w1 wr) (fun i _ => rs.length + 1 - (intOf i).toNat)
  case atStart => exact ⟨0, Nat.zero_le _, rfl, by simp, Keep.refl _ _⟩
  case round =>
    obtain ⟨k, hk, rfl, hal, hkr⟩ := hrel
    have HAL := hid hal; have HKR := hid hkr
    clear hal hkr
    have c2 := HC.out wr HKR.out
    by_cases hlt : k < rs.length
    · obtain ⟨x, hxk⟩ : ∃ x, rs[k]? = some x := ⟨rs[k], by simp [hlt]⟩
      have HX := hid (HAT.out k x hxk)
      have HNX : Hid (newIs id x = false → ∀ y ∈ rs.take (k + 1), newIs id y = false) := hid (fun h y hy => by
        rw [take_next hxk] at hy
        rcases List.mem_append.1 hy with hy | hy
        · exact HAL.out y hy
        · rw [List.mem_singleton.1 hy]; exact h)
      obtain ⟨b1, o1, eq, ec, rfl, hb1, x0, x1, x2, _, _⟩ := UP.at (HU.out wr (HK1.out.trans HKR.out)) hxk
      have hin : (0 : Int) ≤ (k : Int) ∧ (k : Int) < (rs.length : Int) := ⟨by omega, by omega⟩
      clear hxk hb1
      by_cases h1 : x.new = id
      · have g1 : (x.new == id) = true := beq_iff_eq.2 h1
        have G := hid (HX.out (decide_eq_true h1) HAL.out)
        clear h1
        go_wp2
        go_ret
        exact ⟨by rw [G.out]; rfl, HK1.out.trans HKR.out⟩
      · have g1 : (x.new == id) = false := beq_eq_false_iff_ne.2 h1
        have G := hid (HNX.out (decide_eq_false h1))
        clear h1
        go_wp2
        go_roundw
        case rel => exact ⟨k + 1, by omega, by go_num, G.out, HKR.out⟩
        case measure => simp [intOf]; omega
    · obtain rfl : k = rs.length := by omega
      have g0 : decide ((rs.length : Int) < (rs.length : Int)) = false := decide_eq_false (by omega)
      have G := hid (HNO.out (by have h := HAL.out; rwa [List.take_length] at h))
      go_wp2
      go_ret
      exact ⟨by rw [G.out]; rfl, HK1.out.trans HKR.out⟩

/-- What the first look at a rule finds wrong. -/
def badN (last : Int) (r : Rul) : Bool := decide (r.new ≤ last ∨ 24 < r.new ∨ r.old < 0 ∨ 24 < r.old)
theorem ruleCk_bad {last : Int} {r : Rul} : ruleCk last r = if badN last r = true then 1 else if r.old = 0 ∧ 0 < r.exprs.length then 4 else if 8 < r.exprs.length then 5 else encRun r.exprs := by
  unfold ruleCk badN
  by_cases h : r.new ≤ last ∨ 24 < r.new ∨ r.old < 0 ∨ 24 < r.old
  · rw [if_pos h, if_pos (decide_eq_true h)]
  · rw [decide_eq_false h, if_neg h]; simp

set_option maxRecDepth 20000 in
set_option maxHeartbeats 64000000 in
theorem r_check12 (a b : Int) (rs : List Rul) (q : Option Addr) (qc : Nat) (w : World) (hl : rs.length ≤ 65536) (hL : ∀ r ∈ rs, r.exprs.length ≤ 65536) (hfit : ∀ r ∈ rs, FitR r) (hq : UP w w.heap.size q rs) :
    Calls Tryz.prog 10 #[PgV a b q rs.length qc] w fun r w' => r = .returned (iV (progC a b rs)) ∧ Keep (fun _ => False) w w' := by
  obtain ⟨w1, hw1, hb1, hs1, hk1⟩ := box1 w #[.int .i64 a, .int .i64 b, .slice q rs.length qc] 29
  have HK1 := hid hk1; have HB1 := hid hb1
  have HU : Hid (∀ wy, Keep (fun _ => False) w wy → UP wy wy.heap.size q rs) := hid (fun wy hk => UP.mono (UP.low hq (Low.keep0 hk)) hk.size)
  have HX := hid hfit; have HL := hid hL
  have HP1 : Hid (versionB a = false ∨ versionB b = false → progC a b rs = 1) := hid (fun h => if_neg (fun ⟨h1, h2⟩ => by rcases h with h | h; (rw [h1] at h; cases h); (rw [h2] at h; cases h)))
  have HP2 : Hid (versionB a = true → versionB b = true → progC a b rs = rulesRun 0 rs) := hid (fun h1 h2 => if_pos ⟨h1, h2⟩)
  generalize progC a b rs = R at *
  clear hb1 hs1 hk1 hq hfit hL
  go_enter Tryz.func10, Tryz.ntmps10
  go_upto_region 1 with fail
  rw [← hw1]
  clear hw1
  generalize w.heap.size = sb at *
  have HC : Hid (∀ wy, Keep (fun _ => False) w1 wy → wy.cell? ⟨sb, 0, none⟩ = some (.int .i64 a) ∧ wy.cell? ⟨sb, 1, none⟩ = some (.int .i64 b) ∧ wy.cell? ⟨sb, 2, none⟩ = some (.slice q rs.length qc)) := hid (fun wy hk => ⟨cell_of (hk.get HB1.out (fun e => e)) (by rfl), cell_of (hk.get HB1.out (fun e => e)) (by rfl), cell_of (hk.get HB1.out (fun e => e)) (by rfl)⟩)
  obtain ⟨p0, p1, p2⟩ := HC.out w1 (Keep.refl _ _)
  by_cases h1 : a < 1
  · have g1 : decide (a < 1) = true := decide_eq_true h1
    have G := hid (HP1.out (.inl (decide_eq_false (by omega))))
    go_wp2
    go_ret
    exact ⟨by rw [G.out]; rfl, HK1.out⟩
  have g1 : decide (a < 1) = false := decide_eq_false h1
  by_cases h2 : 1073741824 < a
  · have g2 : decide (1073741824 < a) = true := decide_eq_true h2
    have G := hid (HP1.out (.inl (decide_eq_false (by omega))))
    go_wp2
    go_ret
    exact ⟨by rw [G.out]; rfl, HK1.out⟩
  have g2 : decide (1073741824 < a) = false := decide_eq_false h2
  by_cases h3 : b < 1
  · have g3 : decide (b < 1) = true := decide_eq_true h3
    have G := hid (HP1.out (.inr (decide_eq_false (by omega))))
    go_wp2
    go_ret
    exact ⟨by rw [G.out]; rfl, HK1.out⟩
  have g3 : decide (b < 1) = false := decide_eq_false h3
  by_cases h4 : 1073741824 < b
  · have g4 : decide (1073741824 < b) = true := decide_eq_true h4
    have G := hid (HP1.out (.inr (decide_eq_false (by omega))))
    go_wp2
    go_ret
    exact ⟨by rw [G.out]; rfl, HK1.out⟩
  have g4 : decide (1073741824 < b) = false := decide_eq_false h4
  have HR := hid (HP2.out (decide_eq_true (by omega)) (decide_eq_true (by omega)))
  clear h1 h2 h3 h4 HP1 HP2
  go_wp2_with fail
  clear g1 g2 g3 g4 p0 p1 p2
  go_loopw [3] (fun i wr => ∃ (k : Nat) (last : Int), k ≤ rs.length ∧ i = iV k ∧ rulesRun 0 rs = rulesRun last (rs.drop k) ∧ 0 ≤ last ∧ (k = 0 → last = 0) ∧ (∀ j y, k = j + 1 → rs[j]? = some y → y.new = last) ∧ Keep (fun _ => False) w1 wr) (fun i _ => rs.length + 1 - (intOf i).toNat)
  case atStart => exact ⟨0, 0, Nat.zero_le _, rfl, rfl, Int.le_refl _, fun _ => rfl, fun j y h => by omega, Keep.refl _ _⟩
  case round =>
    obtain ⟨k, last, hk, rfl, heq, hl0, hz, hpv, hkr⟩ := hrel
    have HEQ := hid heq; have HKR := hid hkr; have HL0 := hid hl0; have HZ := hid hz; have HPV := hid hpv
    clear heq hkr hl0 hz hpv
    generalize wr = wo at *
    obtain ⟨p0, p1, p2⟩ := HC.out wo HKR.out
    by_cases hlt : k < rs.length
    · obtain ⟨x, hxk⟩ : ∃ x, rs[k]? = some x := ⟨rs[k], by simp [hlt]⟩
      have HEX := hid (show rulesRun 0 rs = if ruleCk last x = 0 then rulesRun x.new (rs.drop (k + 1)) else ruleCk last x by rw [HEQ.out, drop_next hxk]; rfl)
      have HXF := hid (HX.out x (List.mem_of_getElem? hxk))
      have hel := HL.out x (List.mem_of_getElem? hxk)
      have HXK := hid hxk
      obtain ⟨b1, o1, eq, ec, rfl, hb1, x0, x1, x2, _, hxe⟩ := UP.at (HU.out wo (HK1.out.trans HKR.out)) hxk
      have hin : (0 : Int) ≤ (k : Int) ∧ (k : Int) < (rs.length : Int) := ⟨by omega, by omega⟩
      obtain ⟨w5, hw5, hb5, hs5, hk5⟩ := box1 wo #[.int .i64 x.new, .int .i64 x.old, .slice eq x.exprs.length ec] 51
      have HK5 := hid (HKR.out.trans hk5)
      have HEP := hid (fun (wy : World) (hk : Keep (fun _ => False) w5 wy) => EP.mono (EP.low hxe (Low.keep0 (hk5.trans hk))) (hk5.trans hk).size)
      have HB5 := hid hb5
      clear hxk hb1 hxe hb5 hs5 hk5
      go_upto_region 7 with fail
      rw [← hw5]
      clear hw5 x0 x1 x2 p0 p1 p2
      generalize wo.heap.size = xb at *
      have HCX : Hid (∀ wy, Keep (fun _ => False) w5 wy → wy.cell? ⟨xb, 0, none⟩ = some (.int .i64 x.new) ∧ wy.cell? ⟨xb, 1, none⟩ = some (.int .i64 x.old) ∧ wy.cell? ⟨xb, 2, none⟩ = some (.slice eq x.exprs.length ec)) := hid (fun wy hk => ⟨cell_of (hk.get HB5.out (fun e => e)) (by rfl), cell_of (hk.get HB5.out (fun e => e)) (by rfl), cell_of (hk.get HB5.out (fun e => e)) (by rfl)⟩)
      have HRB := hid (ruleCk_bad (last := last) (r := x))
      have HNEW : Hid (badN last x = false → last < x.new) := hid (fun h => by have := of_decide_eq_false h; omega)
      have HBD : Hid (badN last x = decide (x.new ≤ last ∨ 24 < x.new ∨ x.old < 0 ∨ 24 < x.old)) := hid rfl
      generalize badN last x = bd at *
      generalize ruleCk last x = rc at *
      obtain ⟨xn, xd, es⟩ := x
      simp only at HCX HEP hel HRB HNEW HBD HEX
      go_cut [71] from 26 to 103 (fun u wx => u = .bool bd ∧ Keep (fun _ => False) w5 wx)
      case first =>
        have HKD := hid (Keep.refl (fun _ => False) w5).drew
        refine Plan.wp_region_pl [(false, 0, []), (false, 1, []), (false, 2, []), (false, 3, []), (false, 4, []), (false, 5, []), (false, 6, []), (false, 7, []), (false, 8, []), (false, 9, []), (false, 10, []), (false, 11, []), (false, 12, []), (false, 13, []), (false, 14, []), (false, 15, []), (false, 16, []), (false, 17, []), (false, 18, []), (false, 19, []), (false, 20, []), (false, 21, []), (false, 22, []), (false, 23, []), (false, 24, []), (false, 25, []), (false, 26, []), (false, 27, []), (false, 28, []), (false, 29, []), (false, 30, []), (false, 31, []), (false, 32, []), (false, 33, [])] (by as_aux_lemma => kernel_rfl) (by as_aux_lemma => kernel_rfl) ?_
        generalize w5.drew = wd at *
        obtain ⟨c0, c1, c2⟩ := HCX.out wd HKD.out
        by_cases h1 : xn < 1
        · have g1 : decide (xn < 1) = true := decide_eq_true h1
          have G : Hid (bd = true) := hid (by rw [HBD.out]; exact decide_eq_true (by have := HL0.out; omega))
          clear h1
          iterate 34 (refine Plan.pl_st rfl ?_; go_big_quiet_step (fail); refine wpQuiet_nil ?_)
          refine Plan.pl_end ?_
          (try go_wp2)
          go_meet
          case rel => exact ⟨by rw [G.out], HKD.out⟩
        have g1 : decide (xn < 1) = false := decide_eq_false h1
        by_cases h2 : 24 < xn
        · have g2 : decide (24 < xn) = true := decide_eq_true h2
          have G : Hid (bd = true) := hid (by rw [HBD.out]; exact decide_eq_true (by omega))
          clear h1 h2
          iterate 34 (refine Plan.pl_st rfl ?_; go_big_quiet_step (fail); refine wpQuiet_nil ?_)
          refine Plan.pl_end ?_
          (try go_wp2)
          go_meet
          case rel => exact ⟨by rw [G.out], HKD.out⟩
        have g2 : decide (24 < xn) = false := decide_eq_false h2
        by_cases h3 : xd < 0
        · have g3 : decide (xd < 0) = true := decide_eq_true h3
          have G : Hid (bd = true) := hid (by rw [HBD.out]; exact decide_eq_true (by omega))
          clear h1 h2 h3
          iterate 34 (refine Plan.pl_st rfl ?_; go_big_quiet_step (fail); refine wpQuiet_nil ?_)
          refine Plan.pl_end ?_
          (try go_wp2)
          go_meet
          case rel => exact ⟨by rw [G.out], HKD.out⟩
        have g3 : decide (xd < 0) = false := decide_eq_false h3
        by_cases h4 : 24 < xd
        · have g4 : decide (24 < xd) = true := decide_eq_true h4
          have G : Hid (bd = true) := hid (by rw [HBD.out]; exact decide_eq_true (by omega))
          clear h1 h2 h3 h4
          iterate 34 (refine Plan.pl_st rfl ?_; go_big_quiet_step (fail); refine wpQuiet_nil ?_)
          refine Plan.pl_end ?_
          (try go_wp2)
          go_meet
          case rel => exact ⟨by rw [G.out], HKD.out⟩
        have g4 : decide (24 < xd) = false := decide_eq_false h4
        cases k with
        | zero =>
          have hla := HZ.out rfl
          have G : Hid (bd = false) := hid (by rw [HBD.out]; exact decide_eq_false (by omega))
          have g5 : decide ((0 : Int) < ((0 : Nat) : Int)) = false := by decide
          clear h1 h2 h3 h4 hla
          iterate 34 (refine Plan.pl_st rfl ?_; go_big_quiet_step (fail); refine wpQuiet_nil ?_)
          refine Plan.pl_end ?_
          (try go_wp2)
          go_meet
          case rel => exact ⟨by rw [G.out], HKD.out⟩
        | succ j =>
          obtain ⟨y, hyj⟩ : ∃ y, rs[j]? = some y := ⟨rs[j], by simp [show j < rs.length by omega]⟩
          have hla := HPV.out j y rfl hyj
          obtain ⟨yb, yo, yq, yc, he, hyb, y0, y1, y2, _, _⟩ := UP.at (HU.out wd (HK1.out.trans (HK5.out.trans HKD.out))) hyj
          injection he with he; injection he with he1 he2 _; subst he1; subst he2
          have hin2 : (0 : Int) ≤ (j : Int) ∧ (j : Int) < (rs.length : Int) := ⟨by omega, by omega⟩
          obtain ⟨_, _, p2⟩ := HC.out wd (HK5.out.trans HKD.out)
          have g5 : decide ((0 : Int) < ((j + 1 : Nat) : Int)) = true := decide_eq_true (by omega)
          have g5' : decide ((0 : Int) < (j : Int) + 1) = true := decide_eq_true (by omega)
          rw [hla] at y0
          clear hyj hyb y1 y2 hla
          by_cases h5 : xn ≤ last
          · have g6 : decide (xn ≤ last) = true := decide_eq_true h5
            have G : Hid (bd = true) := hid (by rw [HBD.out]; exact decide_eq_true (by omega))
            clear h1 h2 h3 h4 h5
            iterate 34 (refine Plan.pl_st rfl ?_; go_big_quiet_step (fail); refine wpQuiet_nil ?_)
            refine Plan.pl_end ?_
            (try go_wp2)
            go_meet
            case rel => exact ⟨by rw [G.out], HKD.out⟩
          · have g6 : decide (xn ≤ last) = false := decide_eq_false h5
            have G : Hid (bd = false) := hid (by rw [HBD.out]; exact decide_eq_false (by omega))
            clear h1 h2 h3 h4 h5
            iterate 34 (refine Plan.pl_st rfl ?_; go_big_quiet_step (fail); refine wpQuiet_nil ?_)
            refine Plan.pl_end ?_
            (try go_wp2)
            go_meet
            case rel => exact ⟨by rw [G.out], HKD.out⟩
      case rest =>
      obtain ⟨rfl, hkc⟩ := hcut
      have HKC := hid hkc
      clear hkc HBD
      generalize wc = we at *
      obtain ⟨c0, c1, c2⟩ := HCX.out we HKC.out
      cases bd
      rotate_left
      · have G : Hid (R = 1) := hid (by rw [HR.out, HEX.out, if_neg (by rw [HRB.out, if_pos rfl]; omega), HRB.out, if_pos rfl])
        go_wp2
        go_ret
        exact ⟨by rw [G.out]; rfl, HK1.out.trans (HK5.out.trans HKC.out)⟩
      have HRB2 : Hid (rc = if xd = 0 ∧ 0 < es.length then 4 else if 8 < es.length then 5 else encRun es) := hid (by rw [HRB.out, if_neg (by simp)])
      have HLS := hid (HNEW.out rfl)
      clear HRB HNEW
      by_cases h5 : xd = 0 ∧ 0 < es.length
      · have g5 : (xd == 0) = true := beq_iff_eq.2 h5.1
        have g6 : decide ((0 : Int) < (es.length : Int)) = true := decide_eq_true (by omega)
        have g7 : decide (0 < es.length) = true := decide_eq_true h5.2
        have G : Hid (R = 4) := hid (by rw [HR.out, HEX.out, if_neg (by rw [HRB2.out, if_pos h5]; omega), HRB2.out, if_pos h5])
        clear h5
        go_wp2
        go_ret
        exact ⟨by rw [G.out]; rfl, HK1.out.trans (HK5.out.trans HKC.out)⟩
      have HRB3 : Hid (rc = if 8 < es.length then 5 else encRun es) := hid (by rw [HRB2.out, if_neg h5])
      clear HRB2
      go_upto_region 9 with fail
      go_cut [80] from 72 to 103 (fun v wx => v = .bool false ∧ we = wx)
      case first =>
        by_cases h6 : xd = 0
        · have g5 : (xd == 0) = true := beq_iff_eq.2 h6
          have g6 : decide ((0 : Int) < (es.length : Int)) = false := decide_eq_false (by omega)
          have g7 : decide (0 < es.length) = false := decide_eq_false (by omega)
          clear h5 h6
          go_wp2
          go_meet
          case rel => exact ⟨rfl, rfl⟩
        · have g5 : (xd == 0) = false := beq_eq_false_iff_ne.2 h6
          clear h5 h6
          go_wp2
          go_meet
          case rel => exact ⟨rfl, rfl⟩
      case rest =>
      obtain ⟨rfl, rfl⟩ := hcut
      clear h5
      by_cases h8 : 8 < es.length
      · have g5 : decide ((8 : Int) < (es.length : Int)) = true := decide_eq_true (by omega)
        have g6 : decide (8 < es.length) = true := decide_eq_true h8
        have G : Hid (R = 5) := hid (by rw [HR.out, HEX.out, if_neg (by rw [HRB3.out, if_pos h8]; omega), HRB3.out, if_pos h8])
        clear h8
        go_wp2
        go_ret
        exact ⟨by rw [G.out]; rfl, HK1.out.trans (HK5.out.trans HKC.out)⟩
      have g5 : decide ((8 : Int) < (es.length : Int)) = false := decide_eq_false (by omega)
      have g6 : decide (8 < es.length) = false := decide_eq_false h8
      have HRC : Hid (rc = encRun es) := hid (by rw [HRB3.out, if_neg h8])
      clear HRB3
      go_wp2_with fail
      clear g5 g6 c0 c1 c2
      go_loopw [5] (fun i wr => ∃ j : Nat, j ≤ es.length ∧ i = iV j ∧ encRun es = encRun (es.drop j) ∧ Keep (fun _ => False) w5 wr) (fun i _ => es.length + 1 - (intOf i).toNat)
      case atStart => exact ⟨0, Nat.zero_le _, rfl, rfl, HKC.out⟩
      case round =>
        obtain ⟨j, hj, rfl, hej, hkj⟩ := hrel
        have HEJ := hid hej; have HKJ := hid hkj
        clear hej hkj
        obtain ⟨c0, c1, c2⟩ := HCX.out wr HKJ.out
        by_cases hltj : j < es.length
        · obtain ⟨e, hje⟩ : ∃ e, es[j]? = some e := ⟨es[j], by simp [hltj]⟩
          have HEE := hid (show encRun es = if encC e = 0 then encRun (es.drop (j + 1)) else encC e by rw [HEJ.out, drop_next hje]; rfl)
          have HFE := hid (HXF.out e (List.mem_of_getElem? hje))
          obtain ⟨eb, eo, ep, ec2, rfl, heb, u0, _, hei⟩ := EP.at (HEP.out wr HKJ.out) hje
          have hin2 : (0 : Int) ≤ (j : Int) ∧ (j : Int) < (es.length : Int) := ⟨by omega, by omega⟩
          have HEI := hid hei
          clear hje heb hei
          go_wp2_with fail
          refine (r_encode11 e ep ec2 wr HFE.out HEI.out).mono ?_
          rintro r w7 ⟨rfl, hk⟩
          have HK7 := hid (HKJ.out.trans hk)
          clear hk c0 c1 c2 u0
          by_cases hz : encC e = 0
          · have G3 := hid (HEE.out.trans (if_pos hz))
            rw [hz]
            clear hz
            go_wp2
            go_roundw
            case rel => exact ⟨j + 1, by omega, by go_num, G3.out, HK7.out⟩
            case measure => simp [intOf]; omega
          · have G4 : Hid (R = encC e) := hid (by
              have h3 : rc = encC e := HRC.out.trans (HEE.out.trans (if_neg hz))
              rw [HR.out, HEX.out, if_neg (by rw [h3]; exact hz), h3])
            clear HEE
            generalize encC e = er at *
            have g1 : ((er : Int) != 0) = true := by rw [bne_iff_ne]; omega
            have g2 : (er != 0) = true := by rw [bne_iff_ne]; exact hz
            clear hz
            go_wp2
            go_ret
            exact ⟨by rw [G4.out]; rfl, HK1.out.trans (HK5.out.trans HK7.out)⟩
        · obtain rfl : j = es.length := by omega
          have G3 : Hid (rc = 0) := hid (by rw [HRC.out, HEJ.out, List.drop_length]; rfl)
          have G4 : Hid (rulesRun 0 rs = rulesRun xn (rs.drop (k + 1))) := hid (HEX.out.trans (if_pos G3.out))
          have g0 : decide ((es.length : Int) < (es.length : Int)) = false := decide_eq_false (by omega)
          go_wp2
          go_roundw
          case rel => exact ⟨k + 1, xn, by omega, by go_num, G4.out, by have := HLS.out; have := HL0.out; omega, fun h => by omega, fun j y h1 h2 => by
            obtain rfl : j = k := by omega
            rw [HXK.out] at h2; injection h2 with h2; rw [← h2], HK5.out.trans HKJ.out⟩
          case measure => simp [intOf]; omega
    · obtain rfl : k = rs.length := by omega
      have g0 : decide ((rs.length : Int) < (rs.length : Int)) = false := decide_eq_false (by omega)
      have G : Hid (R = 0) := hid (by rw [HR.out, HEQ.out, List.drop_length]; rfl)
      go_wp2
      go_ret
      exact ⟨by rw [G.out]; rfl, HK1.out.trans HKR.out⟩
end Go.Proofs.YtlhdofkgcbmnnaaGreatDoor

namespace Go.Proofs.YtlhdofkgcbmnnaaGreatDoor
open Go.RowKit Go.Proofs.Heap Go.Proofs.Sch Go.Proofs.Wide

theorem three_bs (w : World) (a b c : Nat) (ha : a < 256) (hb : b < 256) (hc : c < 256) : (convert 59 9 (.slice (some ⟨w.heap.size, 0, none⟩) 3 3)).run Tryz.prog (w.alloc (.cells #[.int .u8 (a : Int), .int .u8 (b : Int), .int .u8 (c : Int)] 5)) = .ok (.string (bsB (leL 1 a ++ leL 1 b ++ leL 1 c))) (w.alloc (.cells #[.int .u8 (a : Int), .int .u8 (b : Int), .int .u8 (c : Int)] 5)) := by
  obtain ⟨m, rfl, hm⟩ := u8_of ha
  obtain ⟨k, rfl, hk⟩ := u8_of hb
  obtain ⟨l, rfl, hl⟩ := u8_of hc
  have e : bsB (leL 1 m.toNat ++ leL 1 k.toNat ++ leL 1 l.toNat) = ⟨#[m, k, l]⟩ := by
    show (⟨#[UInt8.ofNat m.toNat, UInt8.ofNat k.toNat, UInt8.ofNat l.toNat]⟩ : ByteArray) = _
    rw [hm, hk, hl]
  rw [e]
  refine run_bytes_string _ _ _ 5 Tryz.underlying59 Tryz.underlying5 Tryz.underlying9 _ 0 3 3 [m, k, l] rfl (fun i x hx => ?_)
  match i, hx with
  | 0, hx => injection hx with hx; subst hx; exact cell_of (heap_alloc_new w _) rfl
  | 1, hx => injection hx with hx; subst hx; exact cell_of (heap_alloc_new w _) rfl
  | 2, hx => injection hx with hx; subst hx; exact cell_of (heap_alloc_new w _) rfl
  | _ + 3, hx => simp at hx
theorem four_bs (w : World) (a b c d : Nat) (ha : a < 256) (hb : b < 256) (hc : c < 256) (hd : d < 256) : (convert 59 9 (.slice (some ⟨w.heap.size, 0, none⟩) 4 4)).run Tryz.prog (w.alloc (.cells #[.int .u8 (a : Int), .int .u8 (b : Int), .int .u8 (c : Int), .int .u8 (d : Int)] 5)) = .ok (.string (bsB (leL 1 a ++ leL 1 b ++ leL 1 c ++ leL 1 d))) (w.alloc (.cells #[.int .u8 (a : Int), .int .u8 (b : Int), .int .u8 (c : Int), .int .u8 (d : Int)] 5)) := by
  obtain ⟨m, rfl, hm⟩ := u8_of ha
  obtain ⟨k, rfl, hk⟩ := u8_of hb
  obtain ⟨l, rfl, hl⟩ := u8_of hc
  obtain ⟨q, rfl, hq⟩ := u8_of hd
  have e : bsB (leL 1 m.toNat ++ leL 1 k.toNat ++ leL 1 l.toNat ++ leL 1 q.toNat) = ⟨#[m, k, l, q]⟩ := by
    show (⟨#[UInt8.ofNat m.toNat, UInt8.ofNat k.toNat, UInt8.ofNat l.toNat, UInt8.ofNat q.toNat]⟩ : ByteArray) = _
    rw [hm, hk, hl, hq]
  rw [e]
  refine run_bytes_string _ _ _ 5 Tryz.underlying59 Tryz.underlying5 Tryz.underlying9 _ 0 4 4 [m, k, l, q] rfl (fun i x hx => ?_)
  match i, hx with
  | 0, hx => injection hx with hx; subst hx; exact cell_of (heap_alloc_new w _) rfl
  | 1, hx => injection hx with hx; subst hx; exact cell_of (heap_alloc_new w _) rfl
  | 2, hx => injection hx with hx; subst hx; exact cell_of (heap_alloc_new w _) rfl
  | 3, hx => injection hx with hx; subst hx; exact cell_of (heap_alloc_new w _) rfl
  | _ + 4, hx => simp at hx
theorem w64N (n : Nat) (h : n < 9223372036854775808) : wrap64 (n : Int) = (n : Int) := by unfold wrap64; omega
theorem ofN_mod (n : Nat) : UInt8.ofNat (n % 256) = UInt8.ofNat n := by
  apply UInt8.toNat_inj.1
  rw [UInt8.toNat_ofNat', UInt8.toNat_ofNat']
  omega
theorem leL_four (n : Nat) : leL 1 (n % 256) ++ leL 1 (n / 256 % 256) ++ leL 1 (n / 65536 % 256) ++ leL 1 (n / 16777216) = leL 4 n := by
  show [UInt8.ofNat (n % 256), UInt8.ofNat (n / 256 % 256), UInt8.ofNat (n / 65536 % 256), UInt8.ofNat (n / 16777216)] = [UInt8.ofNat n, UInt8.ofNat (n / 256), UInt8.ofNat (n / 256 / 256), UInt8.ofNat (n / 256 / 256 / 256)]
  rw [ofN_mod, ofN_mod, ofN_mod, Nat.div_div_eq_div_mul, Nat.div_div_eq_div_mul]

set_option maxRecDepth 20000 in
set_option maxHeartbeats 8000000 in
theorem r_quad (n : Nat) (hn : n < 4294967296) (w : World) :
    Calls Tryz.prog 30 #[.int .i64 (n : Int)] w fun r w' => r = .returned (.string (bsB (leL 4 n))) ∧ Keep (fun _ => False) w w' := by
  have HLF := hid (leL_four n)
  obtain ⟨d0, e0⟩ : ∃ d, n % 256 = d := ⟨_, rfl⟩
  obtain ⟨q1, f1⟩ : ∃ d, n / 256 = d := ⟨_, rfl⟩
  obtain ⟨d1, e1⟩ : ∃ d, q1 % 256 = d := ⟨_, rfl⟩
  obtain ⟨q2, f2⟩ : ∃ d, n / 65536 = d := ⟨_, rfl⟩
  obtain ⟨d2, e2⟩ : ∃ d, q2 % 256 = d := ⟨_, rfl⟩
  obtain ⟨q3, f3⟩ : ∃ d, n / 16777216 = d := ⟨_, rfl⟩
  rw [e0, f1, e1, f2, e2, f3] at HLF
  have l0 : d0 < 256 := by omega
  have l1 : d1 < 256 := by omega
  have l2 : d2 < 256 := by omega
  have l3 : q3 < 256 := by omega
  have Hb0 := hid (w64N d0 (by omega))
  have Hb1 := hid (w64N d1 (by omega))
  have Hb2 := hid (w64N d2 (by omega))
  have Hb3 := hid (w64N q1 (by omega))
  have Hb4 := hid (w64N q2 (by omega))
  have Hb5 := hid (w64N q3 (by omega))
  have Hu0 := hid (wrap8 l0)
  have Hu1 := hid (wrap8 l1)
  have Hu2 := hid (wrap8 l2)
  have Hu3 := hid (wrap8 l3)
  have hcv := four_bs w d0 d1 d2 q3 l0 l1 l2 l3
  have r0 : (n : Int).tmod 256 = (d0 : Int) := by rw [Int.tmod_eq_emod_of_nonneg (by omega)]; omega
  have s1 : (n : Int).tdiv 256 = (q1 : Int) := by rw [Int.tdiv_eq_ediv_of_nonneg (by omega)]; omega
  have r1 : (q1 : Int).tmod 256 = (d1 : Int) := by rw [Int.tmod_eq_emod_of_nonneg (by omega)]; omega
  have s2 : (n : Int).tdiv 65536 = (q2 : Int) := by rw [Int.tdiv_eq_ediv_of_nonneg (by omega)]; omega
  have r2 : (q2 : Int).tmod 256 = (d2 : Int) := by rw [Int.tmod_eq_emod_of_nonneg (by omega)]; omega
  have s3 : (n : Int).tdiv 16777216 = (q3 : Int) := by rw [Int.tdiv_eq_ediv_of_nonneg (by omega)]; omega
  obtain ⟨tx, htx⟩ : ∃ tx, bsB (leL 1 d0 ++ leL 1 d1 ++ leL 1 d2 ++ leL 1 q3) = tx := ⟨_, rfl⟩
  have HTX := hid htx
  rw [htx] at hcv
  have hk := (Keep.refl (fun _ => False) w).alloc (.cells #[.int .u8 (d0 : Int), .int .u8 (d1 : Int), .int .u8 (d2 : Int), .int .u8 (q3 : Int)] 5)
  have HK := hid hk
  clear hk htx e0 e1 e2 f1 f2 f3 l0 l1 l2 l3
  have b0 := Hb0.out
  have b1 := Hb1.out
  have b2 := Hb2.out
  have b3 := Hb3.out
  have b4 := Hb4.out
  have b5 := Hb5.out
  have u0 := Hu0.out
  have u1 := Hu1.out
  have u2 := Hu2.out
  have u3 := Hu3.out
  go_enter Tryz.func30, Tryz.ntmps30
  go_wp2
  go_ret
  exact ⟨by rw [← HLF.out, HTX.out]; rfl, HK.out⟩

set_option maxRecDepth 20000 in
set_option maxHeartbeats 64000000 in
theorem r_encode12 (a b : Int) (rs : List Rul) (q : Option Addr) (qc : Nat) (w : World) (hok : progC a b rs = 0) (hfit : ∀ r ∈ rs, FitR r) (hq : UP w w.heap.size q rs) :
    Calls Tryz.prog 13 #[PgV a b q rs.length qc] w fun r w' => r = .returned (.string (progS a b rs)) ∧ Keep (fun _ => False) w w' := by
  obtain ⟨ha, hb, hn24, hrs⟩ := prog_ok hok
  have HPS : Hid (progS a b rs = bsB (progL a b rs)) := hid (if_pos hok)
  have HPL : Hid (progL a b rs = leL 1 77 ++ leL 4 (u64N a) ++ leL 4 (u64N b) ++ leL 1 rs.length ++ rs.flatMap ruleL) := hid rfl
  generalize progS a b rs = R at *
  generalize progL a b rs = PL at *
  obtain ⟨an, rfl⟩ := Int.eq_ofNat_of_zero_le (a := a) (by omega)
  obtain ⟨bn, rfl⟩ := Int.eq_ofNat_of_zero_le (a := b) (by omega)
  rw [u64N_nat (show an < 18446744073709551616 by omega), u64N_nat (show bn < 18446744073709551616 by omega)] at HPL
  obtain ⟨w1, hw1, hb1, hs1, hk1⟩ := box1 w #[.int .i64 (an : Int), .int .i64 (bn : Int), .slice q rs.length qc] 29
  have HK1 := hid hk1; have HB1 := hid hb1
  have HU : Hid (∀ wy, Keep (fun _ => False) w wy → UP wy wy.heap.size q rs) := hid (fun wy hk => UP.mono (UP.low hq (Low.keep0 hk)) hk.size)
  have HX := hid hfit; have HRS := hid hrs
  have HQA := hid (fun wy => r_quad an (by omega) wy); have HQB := hid (fun wy => r_quad bn (by omega) wy)
  have HN : Hid (rs.length < 256) := hid (by omega)
  have HN24 := hid hn24
  have u0 := wrap8 HN.out
  clear hb1 hs1 hk1 hq hfit hrs ha hb hok hn24
  go_enter Tryz.func13, Tryz.ntmps13
  go_upto_region 1 with fail
  rw [← hw1]
  clear hw1
  generalize w.heap.size = sb at *
  have HC : Hid (∀ wy, Keep (fun _ => False) w1 wy → wy.cell? ⟨sb, 0, none⟩ = some (.int .i64 (an : Int)) ∧ wy.cell? ⟨sb, 1, none⟩ = some (.int .i64 (bn : Int)) ∧ wy.cell? ⟨sb, 2, none⟩ = some (.slice q rs.length qc)) := hid (fun wy hk => ⟨cell_of (hk.get HB1.out (fun e => e)) (by rfl), cell_of (hk.get HB1.out (fun e => e)) (by rfl), cell_of (hk.get HB1.out (fun e => e)) (by rfl)⟩)
  obtain ⟨hd, hhd⟩ : ∃ hd, leL 1 77 ++ leL 4 an ++ leL 4 bn ++ leL 1 rs.length = hd := ⟨_, rfl⟩
  have HHS : Hid (hd.length = 10) := hid (by rw [← hhd]; simp [leL_len])
  rw [hhd] at HPL
  have HHD : Hid (⟨#[77]⟩ ++ bsB (leL 4 an) ++ bsB (leL 4 bn) ++ bsB (leL 1 rs.length) = bsB hd) := hid (by
    rw [show (⟨#[77]⟩ : ByteArray) = bsB (leL 1 77) from rfl, bs_app, bs_app, bs_app, hhd])
  have z1 : (bsB (leL 4 an)).size = 4 := by rw [bs_size, leL_len]
  have z2 : (bsB (leL 4 bn)).size = 4 := by rw [bs_size, leL_len]
  have z3 : (bsB (leL 1 rs.length)).size = 1 := by rw [bs_size, leL_len]
  obtain ⟨nl, hnl⟩ : ∃ nl, rs.length = nl := ⟨_, rfl⟩
  have HCV := hid (fun (wy : World) (bb : Nat) (h : wy.heap[bb]? = some (.cells #[.int .u8 (nl : Int)] 5 (0, 0))) => one_bsW h (by rw [← hnl]; exact HN.out))
  have HNL := hid hnl
  rw [hnl] at HC HHD z3 HN HN24 u0 ⊢
  clear hnl
  generalize bsB (leL 4 an) = ta at *
  generalize bsB (leL 4 bn) = tb at *
  generalize bsB (leL 1 nl) = tn at *
  have y1 : ¬ (9223372036854775807 < 1 + ta.size) := by omega
  have y2 : ¬ (9223372036854775807 < (⟨#[77]⟩ ++ ta).size + tb.size) := by
    rw [ByteArray.size_append]; have h : (⟨#[77]⟩ : ByteArray).size = 1 := rfl; omega
  have y3 : ¬ (9223372036854775807 < (⟨#[77]⟩ ++ ta ++ tb).size + tn.size) := by
    rw [ByteArray.size_append, ByteArray.size_append]; have h : (⟨#[77]⟩ : ByteArray).size = 1 := rfl; omega
  clear z1 z2 z3 hhd
  go_cut [3] from 9 to 23 (fun v wx => v = .string (bsB hd) ∧ Keep (fun _ => False) w1 wx)
  case first =>
    have HKd := hid (Keep.refl (fun _ => False) w1).drew
    refine Plan.wp_region_tr (.st 0 (.st 1 (.st 4 (.st 5 (.st 8 (.st 9 (.st 10 (.st 11 (.br 2 [4, 5, 8, 9, 10, 11] (.st 3 (.br 6 [8, 9, 10, 11, 3] (.st 7 (.ac 12 [3, 7] (.st 13 (.st 14 (.st 15 .done))))) 12 [4, 5, 3] (.st 13 (.ac 6 [3, 13] (.st 7 (.st 14 (.st 15 .done))))))) 12 [0, 1, 4, 5] (.st 13 (.ac 2 [4, 5, 13] (.st 3 (.ac 6 [13, 3] (.st 7 (.st 14 (.st 15 .done)))))))))))))))) (by as_aux_lemma => kernel_rfl) (by as_aux_lemma => kernel_rfl) ?_
    generalize w1.drew = wd at *
    obtain ⟨p0, p1, p2⟩ := HC.out wd HKd.out
    iterate 8 (refine Plan.tr_st rfl ?_; go_big_quiet_step (fail); refine wpQuiet_nil ?_)
    refine Plan.tr_br rfl rfl ?_ ?_
    · go_wp2_with fail
      refine (HQA.out wd).mono ?_
      rintro r wz1 ⟨rfl, hk⟩
      have HKz1 := hid (HKd.out.trans hk)
      clear hk p0 p1 p2
      obtain ⟨p0, p1, p2⟩ := HC.out wz1 HKz1.out
      go_wp2
      refine Plan.trQ_mk ?_ ?_
      · iterate 6 (refine Plan.chk_st rfl ?_ ?_; focus (go_big_quiet_step (fail); exact wpQuiet_nil rfl))
        exact Plan.chk_end
      iterate 1 (refine Plan.tr_st rfl ?_; go_big_quiet_step (fail); refine wpQuiet_nil ?_)
      refine Plan.tr_br rfl rfl ?_ ?_
      · go_wp2_with fail
        refine (HQB.out wz1).mono ?_
        rintro r wz2 ⟨rfl, hk⟩
        have HKz2 := hid (HKz1.out.trans hk)
        clear hk p0 p1 p2
        obtain ⟨p0, p1, p2⟩ := HC.out wz2 HKz2.out
        go_wp2
        refine Plan.trQ_mk ?_ ?_
        · iterate 5 (refine Plan.chk_st rfl ?_ ?_; focus (go_big_quiet_step (fail); exact wpQuiet_nil rfl))
          exact Plan.chk_end
        iterate 1 (refine Plan.tr_st rfl ?_; go_big_quiet_step (fail); refine wpQuiet_nil ?_)
        refine Plan.tr_ac rfl ?_
        obtain ⟨wz3, hwz, hbz, hsz, hkz⟩ := box1 wz2 #[.int .u8 (nl : Int)] 5
        have HKz3 := hid (HKz2.out.trans hkz)
        have HBz3 := hid hbz
        clear hbz hsz hkz
        go_wp2
        rw [← hwz]
        clear hwz p0 p1 p2
        obtain ⟨bb, hbb⟩ : ∃ bb, wz2.heap.size = bb := ⟨_, rfl⟩
        rw [hbb] at HBz3 ⊢
        clear hbb
        obtain ⟨p0, p1, p2⟩ := HC.out wz3 HKz3.out
        have hcv := HCV.out wz3 bb HBz3.out
        refine Plan.trQ_mk ?_ ?_
        · iterate 2 (refine Plan.chk_st rfl ?_ ?_; focus (go_big_quiet_step (fail); exact wpQuiet_nil rfl))
          exact Plan.chk_end
        iterate 3 (refine Plan.tr_st rfl ?_; go_big_quiet_step (fail); refine wpQuiet_nil ?_)
        refine Plan.tr_end ?_
        clear p0 p1 p2 hcv
        go_wp2
        go_meet
        case rel => exact ⟨by rw [← HHD.out], HKz3.out⟩
      · obtain ⟨wz4, hwz, hbz, hsz, hkz⟩ := box1 wz1 #[.int .u8 (nl : Int)] 5
        have HKz4 := hid (HKz1.out.trans hkz)
        have HBz4 := hid hbz
        clear hbz hsz hkz
        go_wp2
        rw [← hwz]
        clear hwz p0 p1 p2
        obtain ⟨bb, hbb⟩ : ∃ bb, wz1.heap.size = bb := ⟨_, rfl⟩
        rw [hbb] at HBz4 ⊢
        clear hbb
        obtain ⟨p0, p1, p2⟩ := HC.out wz4 HKz4.out
        have hcv := HCV.out wz4 bb HBz4.out
        refine Plan.trQ_mk ?_ ?_
        · iterate 3 (refine Plan.chk_st rfl ?_ ?_; focus (go_big_quiet_step (fail); exact wpQuiet_nil rfl))
          exact Plan.chk_end
        iterate 1 (refine Plan.tr_st rfl ?_; go_big_quiet_step (fail); refine wpQuiet_nil ?_)
        refine Plan.tr_ac rfl ?_
        go_wp2_with fail
        refine (HQB.out wz4).mono ?_
        rintro r wz5 ⟨rfl, hk⟩
        have HKz5 := hid (HKz4.out.trans hk)
        have HBz5 := hid (hk.get HBz4.out (fun e => e))
        clear hk p0 p1 p2 hcv
        obtain ⟨p0, p1, p2⟩ := HC.out wz5 HKz5.out
        have hcv := HCV.out wz5 _ HBz5.out
        go_wp2
        refine Plan.trQ_mk ?_ ?_
        · iterate 2 (refine Plan.chk_st rfl ?_ ?_; focus (go_big_quiet_step (fail); exact wpQuiet_nil rfl))
          exact Plan.chk_end
        iterate 3 (refine Plan.tr_st rfl ?_; go_big_quiet_step (fail); refine wpQuiet_nil ?_)
        refine Plan.tr_end ?_
        clear p0 p1 p2 hcv
        go_wp2
        go_meet
        case rel => exact ⟨by rw [← HHD.out], HKz5.out⟩
    · obtain ⟨wz6, hwz, hbz, hsz, hkz⟩ := box1 wd #[.int .u8 (nl : Int)] 5
      have HKz6 := hid (HKd.out.trans hkz)
      have HBz6 := hid hbz
      clear hbz hsz hkz
      go_wp2
      rw [← hwz]
      clear hwz p0 p1 p2
      obtain ⟨bb, hbb⟩ : ∃ bb, wd.heap.size = bb := ⟨_, rfl⟩
      rw [hbb] at HBz6 ⊢
      clear hbb
      obtain ⟨p0, p1, p2⟩ := HC.out wz6 HKz6.out
      have hcv := HCV.out wz6 bb HBz6.out
      refine Plan.trQ_mk ?_ ?_
      · iterate 4 (refine Plan.chk_st rfl ?_ ?_; focus (go_big_quiet_step (fail); exact wpQuiet_nil rfl))
        exact Plan.chk_end
      iterate 1 (refine Plan.tr_st rfl ?_; go_big_quiet_step (fail); refine wpQuiet_nil ?_)
      refine Plan.tr_ac rfl ?_
      go_wp2_with fail
      refine (HQA.out wz6).mono ?_
      rintro r wz7 ⟨rfl, hk⟩
      have HKz7 := hid (HKz6.out.trans hk)
      have HBz7 := hid (hk.get HBz6.out (fun e => e))
      clear hk p0 p1 p2 hcv
      obtain ⟨p0, p1, p2⟩ := HC.out wz7 HKz7.out
      have hcv := HCV.out wz7 _ HBz7.out
      go_wp2
      refine Plan.trQ_mk ?_ ?_
      · iterate 3 (refine Plan.chk_st rfl ?_ ?_; focus (go_big_quiet_step (fail); exact wpQuiet_nil rfl))
        exact Plan.chk_end
      iterate 1 (refine Plan.tr_st rfl ?_; go_big_quiet_step (fail); refine wpQuiet_nil ?_)
      refine Plan.tr_ac rfl ?_
      go_wp2_with fail
      refine (HQB.out wz7).mono ?_
      rintro r wz8 ⟨rfl, hk⟩
      have HKz8 := hid (HKz7.out.trans hk)
      have HBz8 := hid (hk.get HBz7.out (fun e => e))
      clear hk p0 p1 p2 hcv
      obtain ⟨p0, p1, p2⟩ := HC.out wz8 HKz8.out
      have hcv := HCV.out wz8 _ HBz8.out
      go_wp2
      refine Plan.trQ_mk ?_ ?_
      · iterate 2 (refine Plan.chk_st rfl ?_ ?_; focus (go_big_quiet_step (fail); exact wpQuiet_nil rfl))
        exact Plan.chk_end
      iterate 3 (refine Plan.tr_st rfl ?_; go_big_quiet_step (fail); refine wpQuiet_nil ?_)
      refine Plan.tr_end ?_
      clear p0 p1 p2 hcv
      go_wp2
      go_meet
      case rel => exact ⟨by rw [← HHD.out], HKz8.out⟩
  case rest =>
  obtain ⟨rfl, hkc⟩ := hcut
  have HKC := hid hkc
  clear hkc y1 y2 y3 u0 HHD HCV
  generalize wc = w2 at *
  have hn24 := HN24.out
  go_wp2_with fail
  go_loopw [3, 4] (fun s i wr => ∃ k : Nat, k ≤ nl ∧ i = iV k ∧ s = .string (bsB (hd ++ (rs.take k).flatMap ruleL)) ∧ Keep (fun _ => False) w1 wr) (fun _ i _ => nl + 1 - (intOf i).toNat)
  case atStart => exact ⟨0, Nat.zero_le _, rfl, by simp, HKC.out⟩
  case round =>
    obtain ⟨k, hk, rfl, rfl, hkr⟩ := hrel
    have HKR := hid hkr
    clear hkr
    generalize wr = wo at *
    obtain ⟨p0, p1, p2⟩ := HC.out wo HKR.out
    by_cases hlt : k < nl
    · obtain ⟨x, hxk⟩ : ∃ x, rs[k]? = some x := ⟨rs[k]'(by rw [HNL.out]; exact hlt), by simp [HNL.out, hlt]⟩
      have HNX := hid (flat_next ruleL hxk)
      have HXF := hid (HX.out x (List.mem_of_getElem? hxk))
      have HXO := hid (HRS.out x (List.mem_of_getElem? hxk))
      have HLK : Hid (((rs.take k).flatMap ruleL).length ≤ 230000) := hid (by
        have h := flat_le ruleL 9300 (l := rs.take k) (fun g hg => by
          have := HRS.out g (List.mem_of_mem_take hg)
          exact ruleL_len this.2.2.2.2.1 this.2.2.2.2.2)
        have h8 := HN24.out
        rw [List.length_take] at h
        have : min k rs.length * 9300 ≤ 24 * 9300 := Nat.mul_le_mul_right _ (by omega)
        omega)
      obtain ⟨xb, xo, xq, xc, rfl, hxb, x0, x1, x2, _, hxe⟩ := UP.at (HU.out wo (HK1.out.trans HKR.out)) hxk
      have hin : (0 : Int) ≤ (k : Int) ∧ (k : Int) < (nl : Int) := ⟨by omega, by omega⟩
      obtain ⟨w5, hw5, hb5, hs5, hk5⟩ := box1 wo #[.int .i64 x.new, .int .i64 x.old, .slice xq x.exprs.length xc] 51
      have HK5 := hid (HKR.out.trans hk5)
      have HEP := hid (fun (wy : World) (hk : Keep (fun _ => False) w5 wy) => EP.mono (EP.low hxe (Low.keep0 (hk5.trans hk))) (hk5.trans hk).size)
      have HB5 := hid hb5
      clear hxk hxb hxe hb5 hs5 hk5
      go_upto_region 6 with fail
      rw [← hw5]
      clear hw5 x0 x1 x2 p0 p1 p2
      generalize wo.heap.size = rb at *
      obtain ⟨xn, xd, es⟩ := x
      have hx1 : 1 ≤ xn ∧ xn ≤ 24 := ⟨HXO.out.1, HXO.out.2.1⟩
      have hx2 : 0 ≤ xd ∧ xd ≤ 24 := ⟨HXO.out.2.2.1, HXO.out.2.2.2.1⟩
      have hx3 : es.length ≤ 8 := HXO.out.2.2.2.2.1
      have HXE : Hid (∀ c ∈ es, encC c = 0) := hid HXO.out.2.2.2.2.2
      have HXG : Hid (∀ c ∈ es, ∀ y ∈ c, y.k.fit) := hid HXF.out
      simp only at HB5 HEP
      obtain ⟨nn, rfl⟩ := Int.eq_ofNat_of_zero_le (a := xn) (by omega)
      obtain ⟨dn, rfl⟩ := Int.eq_ofNat_of_zero_le (a := xd) (by omega)
      have HRL : Hid (ruleL ⟨(nn : Int), (dn : Int), es⟩ = leL 1 nn ++ leL 1 dn ++ leL 1 es.length ++ es.flatMap (fun c => partL (expS c))) := hid (by
        unfold ruleL
        simp only [u64N_nat (show nn < 18446744073709551616 by omega), u64N_nat (show dn < 18446744073709551616 by omega)])
      have HCX : Hid (∀ wy, Keep (fun _ => False) w5 wy → wy.cell? ⟨rb, 0, none⟩ = some (.int .i64 (nn : Int)) ∧ wy.cell? ⟨rb, 1, none⟩ = some (.int .i64 (dn : Int)) ∧ wy.cell? ⟨rb, 2, none⟩ = some (.slice xq es.length xc)) := hid (fun wy hk => ⟨cell_of (hk.get HB5.out (fun e => e)) (by rfl), cell_of (hk.get HB5.out (fun e => e)) (by rfl), cell_of (hk.get HB5.out (fun e => e)) (by rfl)⟩)
      obtain ⟨c0, c1, c2⟩ := HCX.out w5 (Keep.refl _ _)
      have HHL : Hid (es.length ≤ 8) := hid hx3
      have u1 := wrap8 (show nn < 256 by omega)
      have u2 := wrap8 (show dn < 256 by omega)
      have u3 := wrap8 (show es.length < 256 by omega)
      have hcv := three_bs w5 nn dn es.length (by omega) (by omega) (by omega)
      obtain ⟨w6, hw6, hb6, hs6, hk6⟩ := box1 w5 #[.int .u8 (nn : Int), .int .u8 (dn : Int), .int .u8 (es.length : Int)] 5
      have HK6 := hid hk6
      obtain ⟨sk, hsk⟩ : ∃ sk, hd ++ (rs.take k).flatMap ruleL = sk := ⟨_, rfl⟩
      have HSK : Hid (sk.length ≤ 230010) := hid (by rw [← hsk, List.length_append, HHS.out]; have := HLK.out; omega)
      have HSN : Hid (hd ++ (rs.take (k + 1)).flatMap ruleL = sk ++ ruleL ⟨(nn : Int), (dn : Int), es⟩) := hid (by rw [HNX.out, ← List.append_assoc, hsk])
      rw [hsk]
      have z0 : (bsB sk).size = sk.length := bs_size sk
      have z1 : (bsB (leL 1 nn ++ leL 1 dn ++ leL 1 es.length)).size = 3 := by rw [bs_size]; simp [leL_len]
      have HAP : Hid (bsB sk ++ bsB (leL 1 nn ++ leL 1 dn ++ leL 1 es.length) = bsB (sk ++ (leL 1 nn ++ leL 1 dn ++ leL 1 es.length))) := hid (bs_app _ _)
      have HS2 : Hid ((sk ++ (leL 1 nn ++ leL 1 dn ++ leL 1 es.length)).length ≤ 230013) := hid (by
        simp only [List.length_append, leL_len]; have := HSK.out; omega)
      have HRL2 : Hid (∀ l, sk ++ (leL 1 nn ++ leL 1 dn ++ leL 1 es.length) ++ l = sk ++ (leL 1 nn ++ leL 1 dn ++ leL 1 es.length ++ l)) := hid (fun l => List.append_assoc ..)
      generalize bsB (leL 1 nn ++ leL 1 dn ++ leL 1 es.length) = t3 at *
      obtain ⟨sm, hsm⟩ : ∃ sm, sk ++ (leL 1 nn ++ leL 1 dn ++ leL 1 es.length) = sm := ⟨_, rfl⟩
      rw [hsm] at HAP HS2 HRL2
      generalize hbk : bsB sk = bk at *
      have hsl := HSK.out
      have y1 : ¬ (9223372036854775807 < bk.size + t3.size) := by omega
      clear hsk hb6 hs6 hk6 z0 z1 hsm hx1 hx2 hx3 hbk hsl
      go_wp2_with fail
      rw [← hw6, HAP.out]
      clear hw6 hcv y1 u1 u2 u3 c0 c1 c2 HAP
      have hx8 := HHL.out
      go_loopw [3, 6] (fun s i wr => ∃ j : Nat, j ≤ es.length ∧ i = iV j ∧ s = .string (bsB (sm ++ (es.take j).flatMap (fun c => partL (expS c)))) ∧ Keep (fun _ => False) w5 wr) (fun _ i _ => es.length + 1 - (intOf i).toNat)
      case atStart => exact ⟨0, Nat.zero_le _, rfl, by simp, HK6.out⟩
      case round =>
        obtain ⟨j, hj, rfl, rfl, hkj⟩ := hrel
        have HKJ := hid hkj
        clear hkj
        obtain ⟨c0, c1, c2⟩ := HCX.out wr HKJ.out
        by_cases hltj : j < es.length
        · obtain ⟨e, hje⟩ : ∃ e, es[j]? = some e := ⟨es[j], by simp [hltj]⟩
          have HNE := hid (flat_next (fun c => partL (expS c)) hje)
          have HEE := hid (HXE.out e (List.mem_of_getElem? hje))
          have HFE := hid (HXG.out e (List.mem_of_getElem? hje))
          have HLJ : Hid (((es.take j).flatMap (fun c => partL (expS c))).length ≤ 9300) := hid (by
            have h := flat_le (fun c => partL (expS c)) 1157 (l := es.take j) (fun g hg => by
              have := expS_small (HXE.out g (List.mem_of_mem_take hg))
              show (partL (expS g)).length ≤ 1157
              rw [partL_len]; omega)
            have h8 := HHL.out
            rw [List.length_take] at h
            have : min j es.length * 1157 ≤ 8 * 1157 := Nat.mul_le_mul_right _ (by omega)
            omega)
          have HESZ := hid (expS_small HEE.out)
          obtain ⟨eb, eo, ep, ec2, rfl, heb, v0, _, hei⟩ := EP.at (HEP.out wr HKJ.out) hje
          have hin2 : (0 : Int) ≤ (j : Int) ∧ (j : Int) < (es.length : Int) := ⟨by omega, by omega⟩
          have HEI := hid hei
          clear hje heb hei
          have HEN := hid (r_encode11 e ep ec2 wr HFE.out HEI.out)
          rw [HEE.out] at HEN
          obtain ⟨te, hte⟩ : ∃ te, expS e = te := ⟨_, rfl⟩
          have HPT : Hid (partL (expS e) = leL 4 te.size ++ te.data.toList) := hid (by rw [hte]; rfl)
          rw [hte] at HEN HESZ
          clear hte
          go_wp2_with fail
          refine HEN.out.mono ?_
          rintro r w7 ⟨rfl, hk⟩
          have HK7 := hid (HKJ.out.trans hk)
          clear hk HEN c0 c1 c2 v0
          have HQD := hid (r_quad te.size (by have := HESZ.out; omega) w7)
          obtain ⟨sj, hsj⟩ : ∃ sj, sm ++ (es.take j).flatMap (fun c => partL (expS c)) = sj := ⟨_, rfl⟩
          have HSJ : Hid (sj.length ≤ 240000) := hid (by rw [← hsj, List.length_append]; have := HS2.out; have := HLJ.out; omega)
          have HFIN : Hid (bsB sj ++ bsB (leL 4 te.size) ++ te = bsB (sm ++ (es.take (j + 1)).flatMap (fun c => partL (expS c)))) := hid (by
            rw [HNE.out, ← List.append_assoc, hsj, bs_app]
            conv => lhs; rw [← bs_of te]
            rw [bs_app, HPT.out, List.append_assoc, bs_of])
          rw [hsj]
          have z0 : (bsB sj).size = sj.length := bs_size sj
          have z1 : (bsB (leL 4 te.size)).size = 4 := by rw [bs_size, leL_len]
          have hsl := HSJ.out
          have hes := HESZ.out
          generalize bsB sj = bj at *
          generalize bsB (leL 4 te.size) = tq at *
          have y1 : ¬ (9223372036854775807 < bj.size + tq.size) := by omega
          have y2 : ¬ (9223372036854775807 < (bj ++ tq).size + te.size) := by rw [ByteArray.size_append]; omega
          clear hsj z0 z1 hsl hes
          go_wp2_with fail
          refine HQD.out.mono ?_
          rintro r w8 ⟨rfl, hk⟩
          have HK8 := hid (HK7.out.trans hk)
          clear hk HQD
          go_wp2
          go_roundw
          case rel => exact ⟨j + 1, by omega, by go_num, by rw [HFIN.out], HK8.out⟩
          case measure => simp [intOf]; omega
        · obtain rfl : j = es.length := by omega
          have g0 : decide ((es.length : Int) < (es.length : Int)) = false := decide_eq_false (by omega)
          have HFIN : Hid (sm ++ (es.take es.length).flatMap (fun c => partL (expS c)) = hd ++ (rs.take (k + 1)).flatMap ruleL) := hid (by
            rw [List.take_length, HRL2.out, HSN.out, HRL.out])
          rw [HFIN.out]
          go_wp2
          go_roundw
          case rel => exact ⟨k + 1, by omega, by go_num, rfl, HK5.out.trans HKJ.out⟩
          case measure => simp [intOf]; omega
    · obtain rfl : k = nl := by omega
      have g0 : decide ((k : Int) < (k : Int)) = false := decide_eq_false (by omega)
      have HFIN : Hid (bsB (hd ++ (rs.take k).flatMap ruleL) = R) := hid (by
        rw [← HNL.out, List.take_length, HPS.out, HPL.out])
      rw [HFIN.out]
      go_wp2
      go_ret
      exact ⟨rfl, HK1.out.trans HKR.out⟩
end Go.Proofs.YtlhdofkgcbmnnaaGreatDoor

namespace Go.Proofs.YtlhdofkgcbmnnaaGreatDoor
open Go.RowKit Go.Proofs.Heap Go.Proofs.Sch Go.Proofs.Wide

theorem first_at (L : List UInt8) (a wd : Nat) : firstN (bsB (L.drop a)) wd = leN ((L.drop a).take wd) := by unfold firstN; rw [bs_list]
theorem rdPt_at {L : List UInt8} {a m : Nat} (h : a + 4 ≤ L.length) (hm : leN ((L.drop a).take 4) = m) (h1 : m ≤ 4096) (h2 : a + 4 + m ≤ L.length) : rdPt (atS L a) = (bsB ((L.drop (a + 4)).take m), atS L (a + 4 + m)) := by
  have hf : firstN (bsB (L.drop a)) 4 = m := by rw [first_at, hm]
  unfold rdPt atS
  rw [if_pos ⟨rfl, by
    unfold ptOk
    simp only [hf, bs_size, List.length_drop]
    omega⟩]
  simp only [hf, bs_drop, List.drop_drop]
  rw [bs_ext, List.drop_drop, Nat.add_sub_cancel_left, Nat.add_assoc]
theorem rdPt_short {L : List UInt8} {a : Nat} (h : L.length < a + 4 ∨ ∃ m, leN ((L.drop a).take 4) = m ∧ (4096 < m ∨ L.length < a + 4 + m)) : (rdPt (atS L a)).2.2 = true := by
  unfold rdPt atS
  rw [if_neg]
  rintro ⟨_, h1, h2, h3⟩
  simp only [first_at, bs_size, List.length_drop] at h1 h2 h3
  rcases h with h | ⟨m, hm, h⟩
  · omega
  · rw [hm] at h2 h3; omega
theorem goodX_small {s : ByteArray} (h : goodX s = true) : s.size ≤ 1153 := by
  have h0 : decEX s = 0 := by unfold decEX; rw [if_pos h]
  obtain ⟨h1, h2⟩ := expS_decX h0
  have := expS_small h2
  rwa [h1] at this
theorem decEX_good {s : ByteArray} : decEX s = 0 ↔ goodX s = true := by
  unfold decEX
  constructor
  · intro h; split at h
    · assumption
    · omega
  · intro h; rw [if_pos h]
theorem rdR_at {L : List UInt8} {a : Nat} {x y n : UInt8} (hx : L[a]? = some x) (hy : L[a + 1]? = some y) (hn : L[a + 2]? = some n) :
    rdR (atS L a) = ((⟨(x.toNat : Int), (y.toNat : Int), (rdRow rdPt n.toNat (atS L (a + 3))).1.map decX⟩, (rdRow rdPt n.toNat (atS L (a + 3))).1.all (fun s => decide (decEX s = 0))), (rdRow rdPt n.toNat (atS L (a + 3))).2) :=
  rdR_eq (rd_byte hx) (rd_byte hy) (rd_byte hn)
theorem rdR_short {L : List UInt8} {a : Nat} (h : L.length < a + 3) : (rdR (atS L a)).2.2 = true := by
  obtain ⟨⟨x, s1⟩, e1⟩ : ∃ x, rdN 1 (atS L a) = x := ⟨_, rfl⟩
  obtain ⟨⟨y, s2⟩, e2⟩ : ∃ x, rdN 1 s1 = x := ⟨_, rfl⟩
  obtain ⟨⟨n, s3⟩, e3⟩ : ∃ x, rdN 1 s2 = x := ⟨_, rfl⟩
  rw [rdR_eq e1 e2 e3]
  show (rdRow rdPt n s3).2.2 = true
  have hb : s3.2 = true := by
    by_cases g1 : a + 1 ≤ L.length
    · rw [rdN_at g1] at e1
      injection e1 with _ e1; subst e1
      by_cases g2 : a + 1 + 1 ≤ L.length
      · rw [rdN_at g2] at e2
        injection e2 with _ e2; subst e2
        have h3 := rdN_short (L := L) (a := a + 1 + 1) (wd := 1) (by omega) (by omega)
        rwa [e3] at h3
      · have h2 := rdN_short (L := L) (a := a + 1) (wd := 1) (by omega) (by omega)
        rw [e2] at h2
        have h3 := rdN_bad (wd := 1) (st := s2) h2
        rw [e3] at h3; rw [show s3 = s2 from h3]; exact h2
    · have h1 := rdN_short (L := L) (a := a) (wd := 1) (by omega) (by omega)
      rw [e1] at h1
      have h2 := rdN_bad (wd := 1) (st := s1) h1
      rw [e2] at h2
      have h2' : s2.2 = true := by rw [show s2 = s1 from h2]; exact h1
      have h3 := rdN_bad (wd := 1) (st := s2) h2'
      rw [e3] at h3; rw [show s3 = s2 from h3]; exact h2'
  rw [rdRow_bad rdPt n hb]
  exact hb
/-- The parts of ten bytes or more. -/
theorem partsR_at {s : ByteArray} {L : List UInt8} (hL : s.data.toList = L) {m n : UInt8} (hm : L[0]? = some m) (hn : L[9]? = some n) :
    partsR s = ⟨m.toNat, leN ((L.drop 1).take 4), leN ((L.drop 5).take 4), (rdRow rdR n.toNat (atS L 10)).1, (rdRow rdR n.toNat (atS L 10)).2⟩ := by
  have hl := (List.getElem?_eq_some_iff.1 hn).1
  have e1 : rdN 1 (s, false) = (m.toNat, atS L 1) := by rw [at_zero11, hL]; exact rd_byte hm
  have e2 : rdN 4 (atS L 1) = (leN ((L.drop 1).take 4), atS L 5) := rdN_at (by omega)
  have e3 : rdN 4 (atS L 5) = (leN ((L.drop 5).take 4), atS L 9) := rdN_at (by omega)
  have e4 : rdN 1 (atS L 9) = (n.toNat, atS L 10) := rd_byte hn
  exact partsR_eq e1 e2 e3 e4
theorem noR_mark {s : ByteArray} (h : (partsR s).m ≠ 77) : goodR s = false := by unfold goodR; rw [decide_eq_false h]; simp
theorem noR_bad {s : ByteArray} (h : (partsR s).st.2 = true) : goodR s = false := by unfold goodR; rw [h]; simp
theorem noR_flag {s : ByteArray} (h : (partsR s).rs.all (·.2) = false) : goodR s = false := by unfold goodR; rw [h]; simp
theorem noR_left {s : ByteArray} (h : (partsR s).st.1.size ≠ 0) : goodR s = false := by unfold goodR; rw [decide_eq_false h]; simp
theorem noR_check {s : ByteArray} (h : progC (partsR s).a (partsR s).b (rulesR s) ≠ 0) : goodR s = false := by unfold goodR; rw [decide_eq_false h]; simp
theorem noR_short {s : ByteArray} (h : s.size < 10) : goodR s = false := by
  cases hg : goodR s
  · rfl
  · have h1 := decR_short h
    unfold decER at h1
    rw [if_pos hg] at h1
    omega
theorem zeroR {s : ByteArray} (h : goodR s = false) : decA s = 0 ∧ decB s = 0 ∧ decRs s = [] := by
  unfold decA decB decRs; rw [h]; exact ⟨rfl, rfl, rfl⟩
theorem row_flagR {n k : Nat} {st st0 : St} {out : List (Rul × Bool)} (hk : k < n) (hr : rdRow rdR n st0 = (out ++ (rdRow rdR (n - k) st).1, (rdRow rdR (n - k) st).2)) (h0 : st.2 = false) (h : (rdR st).1.2 = false) : (rdRow rdR n st0).1.all (·.2) = false := by
  rw [hr, show n - k = (n - (k + 1)) + 1 by omega, rdRow_next rdR _ h0]
  simp [h]
theorem row_flagP {n k : Nat} {st st0 : St} {out : List ByteArray} (hk : k < n) (hr : rdRow rdPt n st0 = (out ++ (rdRow rdPt (n - k) st).1, (rdRow rdPt (n - k) st).2)) (h0 : st.2 = false) (h : goodX (rdPt st).1 = false) : (rdRow rdPt n st0).1.all (fun s => decide (decEX s = 0)) = false := by
  have hd : decide (decEX (rdPt st).1 = 0) = false := decide_eq_false (fun e => by rw [decEX_good.1 e] at h; cases h)
  rw [hr, show n - k = (n - (k + 1)) + 1 by omega, rdRow_next rdPt _ h0]
  simp [hd]
theorem rdR_exl (st : St) : (rdR st).1.1.exprs.length ≤ 255 := by
  have h1 := rdN_lt 1 (rdN 1 (rdN 1 st).2).2
  have h2 := rdRow_len rdPt (rdN 1 (rdN 1 (rdN 1 st).2).2).1 (rdN 1 (rdN 1 (rdN 1 st).2).2).2
  show ((rdRow rdPt (rdN 1 (rdN 1 (rdN 1 st).2).2).1 (rdN 1 (rdN 1 (rdN 1 st).2).2).2).1.map decX).length ≤ 255
  rw [List.length_map]
  omega
theorem rdRowR_exl : ∀ (n : Nat) (st : St), ∀ x ∈ (rdRow rdR n st).1, x.1.exprs.length ≤ 65536
  | 0, _ => fun x hx => by simp [rdRow] at hx
  | n + 1, st => fun x hx => by
    rw [rdRow] at hx
    split at hx
    · simp at hx
    · rcases List.mem_cons.1 hx with rfl | hx
      · have := rdR_exl st; omega
      · exact rdRowR_exl n _ x hx
theorem rulesR_exl (s : ByteArray) : ∀ r ∈ rulesR s, r.exprs.length ≤ 65536 := by
  intro r hr
  obtain ⟨y, hy, rfl⟩ := List.mem_map.1 hr
  exact rdRowR_exl _ _ y hy
end Go.Proofs.YtlhdofkgcbmnnaaGreatDoor
