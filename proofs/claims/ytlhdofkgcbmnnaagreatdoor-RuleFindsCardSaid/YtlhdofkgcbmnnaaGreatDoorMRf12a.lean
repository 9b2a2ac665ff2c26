/- What is proved: the document's Find, Check and Line of rules. -/
import Derived.Test.YtlhdofkgcbmnnaaGreatDoorMRuFind
import Derived.Test.YtlhdofkgcbmnnaaGreatDoorMRf11Enc
import Derived.Test.YtlhdofkgcbmnnaaGreatDoorMRuAwake
import Derived.Test.YtlhdofkgcbmnnaaGreatDoorMExDecLaw
import Derived.Test.YtlhdofkgcbmnnaaGreatDoorMWideText
import Derived.Test.YtlhdofkgcbmnnaaGreatDoorMTakes
namespace Go.Proofs.YtlhdofkgcbmnnaaGreatDoor
open Go.RowKit Go.Proofs.Heap Go.Proofs.Sch Go.Proofs.Wide

set_option maxRecDepth 20000 in
set_option maxHeartbeats 8000000 in
theorem r_find12 (a b : Int) (rs : List Rul) (q : Option Addr) (qc : Nat) (id : Int) (w : World) (hl : rs.length ≤ 65536) (hq : UP w w.heap.size q rs) :
    Calls Tryz.prog 17 #[PgV a b q rs.length qc, .int .i64 id] w fun r w' => r = .returned (.int .i64 (idxI (newIs id) rs)) ∧ Keep (fun _ => False) w w' := by
  obtain ⟨w1, hw1, hb1, hs1, hk1⟩ := box1 w #[.int .i64 a, .int .i64 b, .slice q rs.length qc] 29
  have HK1 := hid hk1; have HB1 := hid hb1
  have HU : Hid (∀ wy, Keep (fun _ => False) w wy → UP wy wy.heap.size q rs) := hid (fun wy hk => UP.mono (UP.low hq (Low.keep0 hk)) hk.size)
  have HAT := hid (fun k x (h : rs[k]? = some x) (h1 : newIs id x = true) (h2 : ∀ y ∈ rs.take k, newIs id y = false) => idx_at h h1 h2)
  have HNO := hid (fun (h : ∀ y ∈ rs, newIs id y = false) => idx_none h)
  generalize idxI (newIs id) rs = R at *
  clear hb1 hs1 hk1 hq
  go_enter Tryz.func17, Tryz.ntmps17
  go_upto_region 1 with fail
  rw [← hw1]
  clear hw1
  generalize w.heap.size = sb at *
  have HC : Hid (∀ wy, Keep (fun _ => False) w1 wy → wy.cell? ⟨sb, 2, none⟩ = some (.slice q rs.length qc)) := hid (fun wy hk => cell_of (hk.get HB1.out (fun e => e)) (by rfl))
  go_wp2_with fail
  go_loopw [5] (fun i wr => ∃ k : Nat, k ≤ rs.length ∧ i = iV k ∧ (∀ y ∈ rs.take k, newIs id y = false) ∧ Keep (fun _ => False) w1 wr) (fun i _ => rs.length + 1 - (intOf i).toNat)
  case atStart => exact ⟨0, Nat.zero_le _, rfl, by simp, Keep.refl _ _⟩
  case round =>
    obtain ⟨k, hk, rfl, hal, hkr⟩ := hrel
    have HAL := hid hal; have HKR := hid hkr
    clear hal hkr
    have c2 := HC.out wr HKR.out
    by_cases hlt : k < rs.length
    · obtain ⟨x, hxk⟩ : ∃ x, rs[k]? = some x := ⟨rs[k], by simp [hlt]⟩
      have HX := hid (HAT.out k x hxk)
      have HNX : Hid (newIs id x = false → ∀ y ∈ rs.take (k + 1), newIs id y = false) := hid (fun h y hy => by
        rw [take_next hxk] at hy
        rcases List.mem_append.1 hy with hy | hy
        · exact HAL.out y hy
        · rw [List.mem_singleton.1 hy]; exact h)
      obtain ⟨b1, o1, eq, ec, rfl, hb1, x0, x1, x2, _, _⟩ := UP.at (HU.out wr (HK1.out.trans HKR.out)) hxk
      have hin : (0 : Int) ≤ (k : Int) ∧ (k : Int) < (rs.length : Int) := ⟨by omega, by omega⟩
      clear hxk hb1
      by_cases h1 : x.new = id
      · have g1 : (x.new == id) = true := beq_iff_eq.2 h1
        have G := hid (HX.out (decide_eq_true h1) HAL.out)
        clear h1
        go_wp2
        go_ret
        exact ⟨by rw [G.out]; rfl, HK1.out.trans HKR.out⟩
      · have g1 : (x.new == id) = false := beq_eq_false_iff_ne.2 h1
        have G := hid (HNX.out (decide_eq_false h1))
        clear h1
        go_wp2
        go_roundw
        case rel => exact ⟨k + 1, by omega, by go_num, G.out, HKR.out⟩
        case measure => simp [intOf]; omega
    · obtain rfl : k = rs.length := by omega
      have g0 : decide ((rs.length : Int) < (rs.length : Int)) = false := decide_eq_false (by omega)
      have G := hid (HNO.out (by have h := HAL.out; rwa [List.take_length] at h))
      go_wp2
      go_ret
      exact ⟨by rw [G.out]; rfl, HK1.out.trans HKR.out⟩

/-- What the first look at a rule finds wrong. -/
def badN (last : Int) (r : Rul) : Bool := decide (r.new ≤ last ∨ 24 < r.new ∨ r.old < 0 ∨ 24 < r.old)
theorem ruleCk_bad {last : Int} {r : Rul} : ruleCk last r = if badN last r = true then 1 else if r.old = 0 ∧ 0 < r.exprs.length then 4 else if 8 < r.exprs.length then 5 else encRun r.exprs := by
  unfold ruleCk badN
  by_cases h : r.new ≤ last ∨ 24 < r.new ∨ r.old < 0 ∨ 24 < r.old
  · rw [if_pos h, if_pos (decide_eq_true h)]
  · rw [decide_eq_false h, if_neg h]; simp

set_option maxRecDepth 20000 in
set_option maxHeartbeats 64000000 in
theorem r_check12 (a b : Int) (rs : List Rul) (q : Option Addr) (qc : Nat) (w : World) (hl : rs.length ≤ 65536) (hL : ∀ r ∈ rs, r.exprs.length ≤ 65536) (hfit : ∀ r ∈ rs, FitR r) (hq : UP w w.heap.size q rs) :
    Calls Tryz.prog 10 #[PgV a b q rs.length qc] w fun r w' => r = .returned (iV (progC a b rs)) ∧ Keep (fun _ => False) w w' := by
  obtain ⟨w1, hw1, hb1, hs1, hk1⟩ := box1 w #[.int .i64 a, .int .i64 b, .slice q rs.length qc] 29
  have HK1 := hid hk1; have HB1 := hid hb1
  have HU : Hid (∀ wy, Keep (fun _ => False) w wy → UP wy wy.heap.size q rs) := hid (fun wy hk => UP.mono (UP.low hq (Low.keep0 hk)) hk.size)
  have HX := hid hfit; have HL := hid hL
  have HP1 : Hid (versionB a = false ∨ versionB b = false → progC a b rs = 1) := hid (fun h => if_neg (fun ⟨h1, h2⟩ => by rcases h with h | h; (rw [h1] at h; cases h); (rw [h2] at h; cases h)))
  have HP2 : Hid (versionB a = true → versionB b = true → progC a b rs = rulesRun 0 rs) := hid (fun h1 h2 => if_pos ⟨h1, h2⟩)
  generalize progC a b rs = R at *
  clear hb1 hs1 hk1 hq hfit hL
  go_enter Tryz.func10, Tryz.ntmps10
  go_upto_region 1 with fail
  rw [← hw1]
  clear hw1
  generalize w.heap.size = sb at *
  have HC : Hid (∀ wy, Keep (fun _ => False) w1 wy → wy.cell? ⟨sb, 0, none⟩ = some (.int .i64 a) ∧ wy.cell? ⟨sb, 1, none⟩ = some (.int .i64 b) ∧ wy.cell? ⟨sb, 2, none⟩ = some (.slice q rs.length qc)) := hid (fun wy hk => ⟨cell_of (hk.get HB1.out (fun e => e)) (by rfl), cell_of (hk.get HB1.out (fun e => e)) (by rfl), cell_of (hk.get HB1.out (fun e => e)) (by rfl)⟩)
  obtain ⟨p0, p1, p2⟩ := HC.out w1 (Keep.refl _ _)
  by_cases h1 : a < 1
  · have g1 : decide (a < 1) = true := decide_eq_true h1
    have G := hid (HP1.out (.inl (decide_eq_false (by omega))))
    go_wp2
    go_ret
    exact ⟨by rw [G.out]; rfl, HK1.out⟩
  have g1 : decide (a < 1) = false := decide_eq_false h1
  by_cases h2 : 1073741824 < a
  · have g2 : decide (1073741824 < a) = true := decide_eq_true h2
    have G := hid (HP1.out (.inl (decide_eq_false (by omega))))
    go_wp2
    go_ret
    exact ⟨by rw [G.out]; rfl, HK1.out⟩
  have g2 : decide (1073741824 < a) = false := decide_eq_false h2
  by_cases h3 : b < 1
  · have g3 : decide (b < 1) = true := decide_eq_true h3
    have G := hid (HP1.out (.inr (decide_eq_false (by omega))))
    go_wp2
    go_ret
    exact ⟨by rw [G.out]; rfl, HK1.out⟩
  have g3 : decide (b < 1) = false := decide_eq_false h3
  by_cases h4 : 1073741824 < b
  · have g4 : decide (1073741824 < b) = true := decide_eq_true h4
    have G := hid (HP1.out (.inr (decide_eq_false (by omega))))
    go_wp2
    go_ret
    exact ⟨by rw [G.out]; rfl, HK1.out⟩
  have g4 : decide (1073741824 < b) = false := decide_eq_false h4
  have HR := hid (HP2.out (decide_eq_true (by omega)) (decide_eq_true (by omega)))
  clear h1 h2 h3 h4 HP1 HP2
  go_wp2_with fail
  clear g1 g2 g3 g4 p0 p1 p2
  go_loopw [3] (fun i wr => ∃ (k : Nat) (last : Int), k ≤ rs.length ∧ i = iV k ∧ rulesRun 0 rs = rulesRun last (rs.drop k) ∧ 0 ≤ last ∧ (k = 0 → last = 0) ∧ (∀ j y, k = j + 1 → rs[j]? = some y → y.new = last) ∧ Keep (fun _ => False) w1 wr) (fun i _ => rs.length + 1 - (intOf i).toNat)
  case atStart => exact ⟨0, 0, Nat.zero_le _, rfl, rfl, Int.le_refl _, fun _ => rfl, fun j y h => by omega, Keep.refl _ _⟩
  case round =>
    obtain ⟨k, last, hk, rfl, heq, hl0, hz, hpv, hkr⟩ := hrel
    have HEQ := hid heq; have HKR := hid hkr; have HL0 := hid hl0; have HZ := hid hz; have HPV := hid hpv
    clear heq hkr hl0 hz hpv
    generalize wr = wo at *
    obtain ⟨p0, p1, p2⟩ := HC.out wo HKR.out
    by_cases hlt : k < rs.length
    · obtain ⟨x, hxk⟩ : ∃ x, rs[k]? = some x := ⟨rs[k], by simp [hlt]⟩
      have HEX := hid (show rulesRun 0 rs = if ruleCk last x = 0 then rulesRun x.new (rs.drop (k + 1)) else ruleCk last x by rw [HEQ.out, drop_next hxk]; rfl)
      have HXF := hid (HX.out x (List.mem_of_getElem? hxk))
      have hel := HL.out x (List.mem_of_getElem? hxk)
      have HXK := hid hxk
      obtain ⟨b1, o1, eq, ec, rfl, hb1, x0, x1, x2, _, hxe⟩ := UP.at (HU.out wo (HK1.out.trans HKR.out)) hxk
      have hin : (0 : Int) ≤ (k : Int) ∧ (k : Int) < (rs.length : Int) := ⟨by omega, by omega⟩
      obtain ⟨w5, hw5, hb5, hs5, hk5⟩ := box1 wo #[.int .i64 x.new, .int .i64 x.old, .slice eq x.exprs.length ec] 51
      have HK5 := hid (HKR.out.trans hk5)
      have HEP := hid (fun (wy : World) (hk : Keep (fun _ => False) w5 wy) => EP.mono (EP.low hxe (Low.keep0 (hk5.trans hk))) (hk5.trans hk).size)
      have HB5 := hid hb5
      clear hxk hb1 hxe hb5 hs5 hk5
      go_upto_region 7 with fail
      rw [← hw5]
      clear hw5 x0 x1 x2 p0 p1 p2
      generalize wo.heap.size = xb at *
      have HCX : Hid (∀ wy, Keep (fun _ => False) w5 wy → wy.cell? ⟨xb, 0, none⟩ = some (.int .i64 x.new) ∧ wy.cell? ⟨xb, 1, none⟩ = some (.int .i64 x.old) ∧ wy.cell? ⟨xb, 2, none⟩ = some (.slice eq x.exprs.length ec)) := hid (fun wy hk => ⟨cell_of (hk.get HB5.out (fun e => e)) (by rfl), cell_of (hk.get HB5.out (fun e => e)) (by rfl), cell_of (hk.get HB5.out (fun e => e)) (by rfl)⟩)
      have HRB := hid (ruleCk_bad (last := last) (r := x))
      have HNEW : Hid (badN last x = false → last < x.new) := hid (fun h => by have := of_decide_eq_false h; omega)
      have HBD : Hid (badN last x = decide (x.new ≤ last ∨ 24 < x.new ∨ x.old < 0 ∨ 24 < x.old)) := hid rfl
      generalize badN last x = bd at *
      generalize ruleCk last x = rc at *
      obtain ⟨xn, xd, es⟩ := x
      simp only at HCX HEP hel HRB HNEW HBD HEX
      go_cut [71] from 26 to 103 (fun u wx => u = .bool bd ∧ Keep (fun _ => False) w5 wx)
      case first =>
        have HKD := hid (Keep.refl (fun _ => False) w5).drew
        refine Plan.wp_region_pl [(false, 0, []), (false, 1, []), (false, 2, []), (false, 3, []), (false, 4, []), (false, 5, []), (false, 6, []), (false, 7, []), (false, 8, []), (false, 9, []), (false, 10, []), (false, 11, []), (false, 12, []), (false, 13, []), (false, 14, []), (false, 15, []), (false, 16, []), (false, 17, []), (false, 18, []), (false, 19, []), (false, 20, []), (false, 21, []), (false, 22, []), (false, 23, []), (false, 24, []), (false, 25, []), (false, 26, []), (false, 27, []), (false, 28, []), (false, 29, []), (false, 30, []), (false, 31, []), (false, 32, []), (false, 33, [])] (by as_aux_lemma => kernel_rfl) (by as_aux_lemma => kernel_rfl) ?_
        generalize w5.drew = wd at *
        obtain ⟨c0, c1, c2⟩ := HCX.out wd HKD.out
        by_cases h1 : xn < 1
        · have g1 : decide (xn < 1) = true := decide_eq_true h1
          have G : Hid (bd = true) := hid (by rw [HBD.out]; exact decide_eq_true (by have := HL0.out; omega))
          clear h1
          iterate 34 (refine Plan.pl_st rfl ?_; go_big_quiet_step (fail); refine wpQuiet_nil ?_)
          refine Plan.pl_end ?_
          (try go_wp2)
          go_meet
          case rel => exact ⟨by rw [G.out], HKD.out⟩
        have g1 : decide (xn < 1) = false := decide_eq_false h1
        by_cases h2 : 24 < xn
        · have g2 : decide (24 < xn) = true := decide_eq_true h2
          have G : Hid (bd = true) := hid (by rw [HBD.out]; exact decide_eq_true (by omega))
          clear h1 h2
          iterate 34 (refine Plan.pl_st rfl ?_; go_big_quiet_step (fail); refine wpQuiet_nil ?_)
          refine Plan.pl_end ?_
          (try go_wp2)
          go_meet
          case rel => exact ⟨by rw [G.out], HKD.out⟩
        have g2 : decide (24 < xn) = false := decide_eq_false h2
        by_cases h3 : xd < 0
        · have g3 : decide (xd < 0) = true := decide_eq_true h3
          have G : Hid (bd = true) := hid (by rw [HBD.out]; exact decide_eq_true (by omega))
          clear h1 h2 h3
          iterate 34 (refine Plan.pl_st rfl ?_; go_big_quiet_step (fail); refine wpQuiet_nil ?_)
          refine Plan.pl_end ?_
          (try go_wp2)
          go_meet
          case rel => exact ⟨by rw [G.out], HKD.out⟩
        have g3 : decide (xd < 0) = false := decide_eq_false h3
        by_cases h4 : 24 < xd
        · have g4 : decide (24 < xd) = true := decide_eq_true h4
          have G : Hid (bd = true) := hid (by rw [HBD.out]; exact decide_eq_true (by omega))
          clear h1 h2 h3 h4
          iterate 34 (refine Plan.pl_st rfl ?_; go_big_quiet_step (fail); refine wpQuiet_nil ?_)
          refine Plan.pl_end ?_
          (try go_wp2)
          go_meet
          case rel => exact ⟨by rw [G.out], HKD.out⟩
        have g4 : decide (24 < xd) = false := decide_eq_false h4
        cases k with
        | zero =>
          have hla := HZ.out rfl
          have G : Hid (bd = false) := hid (by rw [HBD.out]; exact decide_eq_false (by omega))
          have g5 : decide ((0 : Int) < ((0 : Nat) : Int)) = false := by decide
          clear h1 h2 h3 h4 hla
          iterate 34 (refine Plan.pl_st rfl ?_; go_big_quiet_step (fail); refine wpQuiet_nil ?_)
          refine Plan.pl_end ?_
          (try go_wp2)
          go_meet
          case rel => exact ⟨by rw [G.out], HKD.out⟩
        | succ j =>
          obtain ⟨y, hyj⟩ : ∃ y, rs[j]? = some y := ⟨rs[j], by simp [show j < rs.length by omega]⟩
          have hla := HPV.out j y rfl hyj
          obtain ⟨yb, yo, yq, yc, he, hyb, y0, y1, y2, _, _⟩ := UP.at (HU.out wd (HK1.out.trans (HK5.out.trans HKD.out))) hyj
          injection he with he; injection he with he1 he2 _; subst he1; subst he2
          have hin2 : (0 : Int) ≤ (j : Int) ∧ (j : Int) < (rs.length : Int) := ⟨by omega, by omega⟩
          obtain ⟨_, _, p2⟩ := HC.out wd (HK5.out.trans HKD.out)
          have g5 : decide ((0 : Int) < ((j + 1 : Nat) : Int)) = true := decide_eq_true (by omega)
          have g5' : decide ((0 : Int) < (j : Int) + 1) = true := decide_eq_true (by omega)
          rw [hla] at y0
          clear hyj hyb y1 y2 hla
          by_cases h5 : xn ≤ last
          · have g6 : decide (xn ≤ last) = true := decide_eq_true h5
            have G : Hid (bd = true) := hid (by rw [HBD.out]; exact decide_eq_true (by omega))
            clear h1 h2 h3 h4 h5
            iterate 34 (refine Plan.pl_st rfl ?_; go_big_quiet_step (fail); refine wpQuiet_nil ?_)
            refine Plan.pl_end ?_
            (try go_wp2)
            go_meet
            case rel => exact ⟨by rw [G.out], HKD.out⟩
          · have g6 : decide (xn ≤ last) = false := decide_eq_false h5
            have G : Hid (bd = false) := hid (by rw [HBD.out]; exact decide_eq_false (by omega))
            clear h1 h2 h3 h4 h5
            iterate 34 (refine Plan.pl_st rfl ?_; go_big_quiet_step (fail); refine wpQuiet_nil ?_)
            refine Plan.pl_end ?_
            (try go_wp2)
            go_meet
            case rel => exact ⟨by rw [G.out], HKD.out⟩
      case rest =>
      obtain ⟨rfl, hkc⟩ := hcut
      have HKC := hid hkc
      clear hkc HBD
      generalize wc = we at *
      obtain ⟨c0, c1, c2⟩ := HCX.out we HKC.out
      cases bd
      rotate_left
      · have G : Hid (R = 1) := hid (by rw [HR.out, HEX.out, if_neg (by rw [HRB.out, if_pos rfl]; omega), HRB.out, if_pos rfl])
        go_wp2
        go_ret
        exact ⟨by rw [G.out]; rfl, HK1.out.trans (HK5.out.trans HKC.out)⟩
      have HRB2 : Hid (rc = if xd = 0 ∧ 0 < es.length then 4 else if 8 < es.length then 5 else encRun es) := hid (by rw [HRB.out, if_neg (by simp)])
      have HLS := hid (HNEW.out rfl)
      clear HRB HNEW
      by_cases h5 : xd = 0 ∧ 0 < es.length
      · have g5 : (xd == 0) = true := beq_iff_eq.2 h5.1
        have g6 : decide ((0 : Int) < (es.length : Int)) = true := decide_eq_true (by omega)
        have g7 : decide (0 < es.length) = true := decide_eq_true h5.2
        have G : Hid (R = 4) := hid (by rw [HR.out, HEX.out, if_neg (by rw [HRB2.out, if_pos h5]; omega), HRB2.out, if_pos h5])
        clear h5
        go_wp2
        go_ret
        exact ⟨by rw [G.out]; rfl, HK1.out.trans (HK5.out.trans HKC.out)⟩
      have HRB3 : Hid (rc = if 8 < es.length then 5 else encRun es) := hid (by rw [HRB2.out, if_neg h5])
      clear HRB2
      go_upto_region 9 with fail
      go_cut [80] from 72 to 103 (fun v wx => v = .bool false ∧ we = wx)
      case first =>
        by_cases h6 : xd = 0
        · have g5 : (xd == 0) = true := beq_iff_eq.2 h6
          have g6 : decide ((0 : Int) < (es.length : Int)) = false := decide_eq_false (by omega)
          have g7 : decide (0 < es.length) = false := decide_eq_false (by omega)
          clear h5 h6
          go_wp2
          go_meet
          case rel => exact ⟨rfl, rfl⟩
        · have g5 : (xd == 0) = false := beq_eq_false_iff_ne.2 h6
          clear h5 h6
          go_wp2
          go_meet
          case rel => exact ⟨rfl, rfl⟩
      case rest =>
      obtain ⟨rfl, rfl⟩ := hcut
      clear h5
      by_cases h8 : 8 < es.length
      · have g5 : decide ((8 : Int) < (es.length : Int)) = true := decide_eq_true (by omega)
        have g6 : decide (8 < es.length) = true := decide_eq_true h8
        have G : Hid (R = 5) := hid (by rw [HR.out, HEX.out, if_neg (by rw [HRB3.out, if_pos h8]; omega), HRB3.out, if_pos h8])
        clear h8
        go_wp2
        go_ret
        exact ⟨by rw [G.out]; rfl, HK1.out.trans (HK5.out.trans HKC.out)⟩
      have g5 : decide ((8 : Int) < (es.length : Int)) = false := decide_eq_false (by omega)
      have g6 : decide (8 < es.length) = false := decide_eq_false h8
      have HRC : Hid (rc = encRun es) := hid (by rw [HRB3.out, if_neg h8])
      clear HRB3
      go_wp2_with fail
      clear g5 g6 c0 c1 c2
      go_loopw [5] (fun i wr => ∃ j : Nat, j ≤ es.length ∧ i = iV j ∧ encRun es = encRun (es.drop j) ∧ Keep (fun _ => False) w5 wr) (fun i _ => es.length + 1 - (intOf i).toNat)
      case atStart => exact ⟨0, Nat.zero_le _, rfl, rfl, HKC.out⟩
      case round =>
        obtain ⟨j, hj, rfl, hej, hkj⟩ := hrel
        have HEJ := hid hej; have HKJ := hid hkj
        clear hej hkj
        obtain ⟨c0, c1, c2⟩ := HCX.out wr HKJ.out
        by_cases hltj : j < es.length
        · obtain ⟨e, hje⟩ : ∃ e, es[j]? = some e := ⟨es[j], by simp [hltj]⟩
          have HEE := hid (show encRun es = if encC e = 0 then encRun (es.drop (j + 1)) else encC e by rw [HEJ.out, drop_next hje]; rfl)
          have HFE := hid (HXF.out e (List.mem_of_getElem? hje))
          obtain ⟨eb, eo, ep, ec2, rfl, heb, u0, _, hei⟩ := EP.at (HEP.out wr HKJ.out) hje
          have hin2 : (0 : Int) ≤ (j : Int) ∧ (j : Int) < (es.length : Int) := ⟨by omega, by omega⟩
          have HEI := hid hei
          clear hje heb hei
          go_wp2_with fail
          refine (r_encode11 e ep ec2 wr HFE.out HEI.out).mono ?_
          rintro r w7 ⟨rfl, hk⟩
          have HK7 := hid (HKJ.out.trans hk)
          clear hk c0 c1 c2 u0
          by_cases hz : encC e = 0
          · have G3 := hid (HEE.out.trans (if_pos hz))
            rw [hz]
            clear hz
            go_wp2
            go_roundw
            case rel => exact ⟨j + 1, by omega, by go_num, G3.out, HK7.out⟩
            case measure => simp [intOf]; omega
          · have G4 : Hid (R = encC e) := hid (by
              have h3 : rc = encC e := HRC.out.trans (HEE.out.trans (if_neg hz))
              rw [HR.out, HEX.out, if_neg (by rw [h3]; exact hz), h3])
            clear HEE
            generalize encC e = er at *
            have g1 : ((er : Int) != 0) = true := by rw [bne_iff_ne]; omega
            have g2 : (er != 0) = true := by rw [bne_iff_ne]; exact hz
            clear hz
            go_wp2
            go_ret
            exact ⟨by rw [G4.out]; rfl, HK1.out.trans (HK5.out.trans HK7.out)⟩
        · obtain rfl : j = es.length := by omega
          have G3 : Hid (rc = 0) := hid (by rw [HRC.out, HEJ.out, List.drop_length]; rfl)
          have G4 : Hid (rulesRun 0 rs = rulesRun xn (rs.drop (k + 1))) := hid (HEX.out.trans (if_pos G3.out))
          have g0 : decide ((es.length : Int) < (es.length : Int)) = false := decide_eq_false (by omega)
          go_wp2
          go_roundw
          case rel => exact ⟨k + 1, xn, by omega, by go_num, G4.out, by have := HLS.out; have := HL0.out; omega, fun h => by omega, fun j y h1 h2 => by
            obtain rfl : j = k := by omega
            rw [HXK.out] at h2; injection h2 with h2; rw [← h2], HK5.out.trans HKJ.out⟩
          case measure => simp [intOf]; omega
    · obtain rfl : k = rs.length := by omega
      have g0 : decide ((rs.length : Int) < (rs.length : Int)) = false := decide_eq_false (by omega)
      have G : Hid (R = 0) := hid (by rw [HR.out, HEQ.out, List.drop_length]; rfl)
      go_wp2
      go_ret
      exact ⟨by rw [G.out]; rfl, HK1.out.trans HKR.out⟩
end Go.Proofs.YtlhdofkgcbmnnaaGreatDoor

namespace Go.Proofs.YtlhdofkgcbmnnaaGreatDoor
open Go.RowKit Go.Proofs.Heap Go.Proofs.Sch Go.Proofs.Wide

/-- A branch: branches one behind the other, as many as the instruction behind them takes. -/
inductive Br : List Ins → Prop
  | mk (bs : List (List Ins)) (x : Ins) (h : ∀ b ∈ bs, Br b) (hn : bs.length = argsN x.op) (hx : insB x = true) : Br (bs.flatten ++ [x])
theorem br_run : ∀ (l : List Ins) (bs : List (List Ins)), (∀ b ∈ bs, Br b) → exprRun bs.length l = 0 → Br (bs.flatten ++ l) := by
  intro l
  induction l with
  | nil =>
    intro bs hb h
    have h1 := exprRun_end h
    match bs, h1 with
    | [b], _ => simpa using hb b (by simp)
  | cons x r ih =>
    intro bs hb h
    obtain ⟨h1, h2, h3, h4⟩ := exprRun_step h
    obtain ⟨b1, hb1⟩ : ∃ b1, bs.take (bs.length - argsN x.op) = b1 := ⟨_, rfl⟩
    obtain ⟨b2, hb2⟩ : ∃ b2, bs.drop (bs.length - argsN x.op) = b2 := ⟨_, rfl⟩
    have e : b1 ++ b2 = bs := by rw [← hb1, ← hb2]; exact List.take_append_drop _ _
    have l1 : b1.length = bs.length - argsN x.op := by rw [← hb1, List.length_take]; omega
    have l2 : b2.length = argsN x.op := by rw [← hb2, List.length_drop]; omega
    have h5 := ih (b1 ++ [b2.flatten ++ [x]]) (fun b hm => by
      rcases List.mem_append.1 hm with hm | hm
      · exact hb b (by rw [← e]; exact List.mem_append.2 (.inl hm))
      · rw [List.mem_singleton.1 hm]
        exact Br.mk b2 x (fun c hc => hb c (by rw [← e]; exact List.mem_append.2 (.inr hc))) l2 h1) (by
      rw [List.length_append, l1]; exact h4)
    rw [← e, List.flatten_append]
    rw [List.flatten_append, List.flatten_cons, List.flatten_nil, List.append_nil] at h5
    simpa [List.append_assoc] using h5
theorem br_code {code : List Ins} (h : exprC code = 0) : Br code := by
  simpa using br_run code [] (fun b hb => by cases hb) (exprC_run h).2
theorem Br.pos {b : List Ins} (h : Br b) : 1 ≤ b.length := by
  cases h
  simp
theorem run_one (fs : List (List WI)) (pl : Int) (s0 vals : List WI) (x : Ins) (h : vals.length = argsN x.op) : runW fs pl (s0 ++ vals) [x] = if (insW fs pl x vals).2 = 0 then (s0 ++ [(insW fs pl x vals).1], 0) else ([], (insW fs pl x vals).2) := by
  have e : (s0 ++ vals).length - argsN x.op = s0.length := by rw [List.length_append]; omega
  rw [runW_cons, e, List.drop_left, List.take_left]
  rfl
/-- What a branch comes to; its error. -/
def brW (fs : List (List WI)) (pl : Int) (b : List Ins) : WI × Nat := if (runW fs pl [] b).2 = 0 then ((runW fs pl [] b).1.getD 0 zW, 0) else (zW, (runW fs pl [] b).2)
/-- What a row of branches comes to; the first error. -/
def rowW (fs : List (List WI)) (pl : Int) : List (List Ins) → List WI × Nat
  | [] => ([], 0)
  | b :: r => if (brW fs pl b).2 = 0 then (if (rowW fs pl r).2 = 0 then ((brW fs pl b).1 :: (rowW fs pl r).1, 0) else ([], (rowW fs pl r).2)) else ([], (brW fs pl b).2)
def opZ (p : WI × Nat) : WI × Nat := if p.2 = 0 then p else (zW, p.2)
theorem rowW_len (fs : List (List WI)) (pl : Int) : ∀ bs : List (List Ins), (rowW fs pl bs).2 = 0 → (rowW fs pl bs).1.length = bs.length
  | [], _ => rfl
  | b :: r, h => by
    unfold rowW at h ⊢
    split
    next h1 =>
      rw [if_pos h1] at h
      split
      next h2 => rw [List.length_cons, List.length_cons, rowW_len fs pl r h2]
      next h2 => rw [if_neg h2] at h; exact absurd h h2
    next h1 => rw [if_neg h1] at h; exact absurd h h1
/-- Behind numbers that are there already a branch does the same. -/
def FrontW (fs : List (List WI)) (pl : Int) (b : List Ins) : Prop := ∀ s0, runW fs pl s0 b = if (brW fs pl b).2 = 0 then (s0 ++ [(brW fs pl b).1], 0) else ([], (brW fs pl b).2)
theorem row_front (fs : List (List WI)) (pl : Int) : ∀ bs : List (List Ins), (∀ b ∈ bs, FrontW fs pl b) → ∀ s0, runW fs pl s0 bs.flatten = if (rowW fs pl bs).2 = 0 then (s0 ++ (rowW fs pl bs).1, 0) else ([], (rowW fs pl bs).2)
  | [], _, s0 => by
    rw [List.flatten_nil]
    show (s0, 0) = if (0 : Nat) = 0 then (s0 ++ [], 0) else _
    rw [if_pos rfl, List.append_nil]
  | b :: r, h, s0 => by
    rw [List.flatten_cons, runW_app, h b (by simp) s0]
    unfold rowW
    by_cases h1 : (brW fs pl b).2 = 0
    · simp only [if_pos h1, if_true]
      rw [row_front fs pl r (fun c hc => h c (by simp [hc])) _]
      by_cases h2 : (rowW fs pl r).2 = 0
      · simp only [if_pos h2, if_true]
        simp
      · simp only [if_neg h2]
    · simp only [if_neg h1]
theorem brW_mk (fs : List (List WI)) (pl : Int) {bs : List (List Ins)} {x : Ins} (h : ∀ b ∈ bs, FrontW fs pl b) (hn : bs.length = argsN x.op) :
    FrontW fs pl (bs.flatten ++ [x]) ∧ brW fs pl (bs.flatten ++ [x]) = if (rowW fs pl bs).2 = 0 then opZ (insW fs pl x (rowW fs pl bs).1) else (zW, (rowW fs pl bs).2) := by
  have key : ∀ s0, runW fs pl s0 (bs.flatten ++ [x]) = if (rowW fs pl bs).2 = 0 then (if (insW fs pl x (rowW fs pl bs).1).2 = 0 then (s0 ++ [(insW fs pl x (rowW fs pl bs).1).1], 0) else ([], (insW fs pl x (rowW fs pl bs).1).2)) else ([], (rowW fs pl bs).2) := by
    intro s0
    rw [runW_app, row_front fs pl bs h s0]
    by_cases h1 : (rowW fs pl bs).2 = 0
    · simp only [if_pos h1, if_true]
      exact run_one fs pl s0 _ x (by rw [rowW_len fs pl bs h1, hn])
    · simp only [if_neg h1]
  have e : brW fs pl (bs.flatten ++ [x]) = if (rowW fs pl bs).2 = 0 then opZ (insW fs pl x (rowW fs pl bs).1) else (zW, (rowW fs pl bs).2) := by
    unfold brW opZ
    rw [key []]
    by_cases h1 : (rowW fs pl bs).2 = 0
    · simp only [if_pos h1]
      by_cases h2 : (insW fs pl x (rowW fs pl bs).1).2 = 0
      · simp only [if_pos h2, if_true]
        exact Prod.ext rfl h2.symm
      · simp only [if_neg h2]
    · simp only [if_neg h1]
  refine ⟨fun s0 => ?_, e⟩
  rw [key s0, e]
  unfold opZ
  by_cases h1 : (rowW fs pl bs).2 = 0
  · simp only [if_pos h1]
    by_cases h2 : (insW fs pl x (rowW fs pl bs).1).2 = 0
    · simp only [if_pos h2]
    · simp only [if_neg h2]
  · simp only [if_neg h1]
theorem br_front (fs : List (List WI)) (pl : Int) {b : List Ins} (h : Br b) : FrontW fs pl b := by
  induction h with
  | mk bs x h hn hx ih => exact (brW_mk fs pl ih hn).1
theorem brW_op (fs : List (List WI)) (pl : Int) {bs : List (List Ins)} {x : Ins} (h : ∀ b ∈ bs, Br b) (hn : bs.length = argsN x.op) :
    brW fs pl (bs.flatten ++ [x]) = if (rowW fs pl bs).2 = 0 then opZ (insW fs pl x (rowW fs pl bs).1) else (zW, (rowW fs pl bs).2) :=
  (brW_mk fs pl (fun b hb => br_front fs pl (h b hb)) hn).2
theorem rowW_ok (fs : List (List WI)) (pl : Int) : ∀ bs : List (List Ins), (∀ b ∈ bs, (brW fs pl b).2 = 0) → rowW fs pl bs = (bs.map (fun b => (brW fs pl b).1), 0)
  | [], _ => rfl
  | b :: r, h => by
    unfold rowW
    rw [rowW_ok fs pl r (fun c hc => h c (by simp [hc])), if_pos (h b (by simp)), if_pos rfl]
    rfl
theorem rowW_bad (fs : List (List WI)) (pl : Int) : ∀ {l r : List (List Ins)} {b : List Ins}, (∀ c ∈ l, (brW fs pl c).2 = 0) → (brW fs pl b).2 ≠ 0 → (rowW fs pl (l ++ b :: r)).2 = (brW fs pl b).2
  | [], r, b, _, hb => by
    show (rowW fs pl (b :: r)).2 = _
    unfold rowW
    rw [if_neg hb]
  | c :: l, r, b, h, hb => by
    show (rowW fs pl (c :: (l ++ b :: r))).2 = _
    unfold rowW
    have := rowW_bad fs pl (l := l) (r := r) (fun d hd => h d (List.mem_cons_of_mem _ hd)) hb
    rw [if_pos (h c (by simp)), if_neg (by rw [this]; exact hb)]
    exact this
/-- What a formula that can be comes to is what the tree comes to. -/
theorem evalW_br (fs : List (List WI)) (pl : Int) {code : List Ins} (h : exprC code = 0) :
    evalW fs pl code = if (brW fs pl code).2 ≠ 0 then (zW, (brW fs pl code).2) else if (brW fs pl code).1.form = true then ((brW fs pl code).1, 0) else (zW, 4) := by
  unfold evalW
  rw [if_neg (by rw [h]; simp), br_front fs pl (br_code h) []]
  by_cases h1 : (brW fs pl code).2 = 0
  · simp only [h1]
    rfl
  · simp only [if_neg h1, if_pos h1]

/-- How a branch is shown. -/
def shB (b : List Ins) : ByteArray := (showRun [] b).getD 0 ⟨#[]⟩
theorem showRun_app : ∀ (l r : List Ins) (st : List ByteArray), showRun st (l ++ r) = showRun (showRun st l) r
  | [], _, _ => rfl
  | x :: l, r, st => by
    show showRun _ (l ++ r) = showRun (showRun _ l) r
    exact showRun_app l r _
def FrontS (b : List Ins) : Prop := ∀ s0, showRun s0 b = s0 ++ [shB b]
theorem srow_front : ∀ bs : List (List Ins), (∀ b ∈ bs, FrontS b) → ∀ s0, showRun s0 bs.flatten = s0 ++ bs.map shB
  | [], _, s0 => by rw [List.flatten_nil]; show s0 = s0 ++ []; rw [List.append_nil]
  | b :: r, h, s0 => by
    rw [List.flatten_cons, showRun_app, h b (by simp) s0, srow_front r (fun c hc => h c (by simp [hc])) _]
    simp
theorem shB_mk {bs : List (List Ins)} {x : Ins} (h : ∀ b ∈ bs, FrontS b) (hn : bs.length = argsN x.op) :
    FrontS (bs.flatten ++ [x]) ∧ shB (bs.flatten ++ [x]) = insT x (bs.map shB) := by
  have key : ∀ s0, showRun s0 (bs.flatten ++ [x]) = s0 ++ [insT x (bs.map shB)] := by
    intro s0
    rw [showRun_app, srow_front bs h s0]
    have e : (s0 ++ bs.map shB).length - argsN x.op = s0.length := by rw [List.length_append, List.length_map]; omega
    show (s0 ++ bs.map shB).take ((s0 ++ bs.map shB).length - argsN x.op) ++ [insT x ((s0 ++ bs.map shB).drop ((s0 ++ bs.map shB).length - argsN x.op))] = _
    rw [e, List.drop_left, List.take_left]
  have e : shB (bs.flatten ++ [x]) = insT x (bs.map shB) := by
    unfold shB
    rw [key []]
    rfl
  exact ⟨fun s0 => by rw [key s0, e], e⟩
theorem br_frontS {b : List Ins} (h : Br b) : FrontS b := by
  induction h with
  | mk bs x h hn hx ih => exact (shB_mk ih hn).1
theorem shB_op {bs : List (List Ins)} {x : Ins} (h : ∀ b ∈ bs, Br b) (hn : bs.length = argsN x.op) : shB (bs.flatten ++ [x]) = insT x (bs.map shB) :=
  (shB_mk (fun b hb => br_frontS (h b hb)) hn).2
theorem showX_br {code : List Ins} (h : exprC code = 0) : showX code = shB code := by unfold showX shB; rw [if_pos h]
theorem shB_size {b : List Ins} (h : Br b) : (∀ x ∈ b, x.k.fit) → (shB b).size ≤ 40 * b.length := by
  induction h with
  | mk bs x h hn hx ih =>
    intro hf
    rw [shB_op h hn]
    have hk : x.k.fit := hf x (by simp)
    have h1 := insT_size hx hk (bs.map shB) (by rw [List.length_map, hn]; exact argsN_le _)
    have h2 : ∀ cs : List (List Ins), (∀ b ∈ cs, (shB b).size ≤ 40 * b.length) → sumS (cs.map shB) ≤ 40 * cs.flatten.length := by
      intro cs
      induction cs with
      | nil => intro _; simp [sumS]
      | cons c r ihr =>
        intro hc
        have a1 := hc c (by simp)
        have a2 := ihr (fun d hd => hc d (by simp [hd]))
        have e : sumS ((c :: r).map shB) = (shB c).size + sumS (r.map shB) := by unfold sumS; simp
        rw [e, List.flatten_cons, List.length_append]
        omega
    have h3 := h2 bs (fun b hb => ih b hb (fun y hy => hf y (by
      rw [List.mem_append]
      exact .inl (List.mem_flatten.2 ⟨b, hb, hy⟩))))
    rw [List.length_append, List.length_singleton]
    omega
/-- The ends of branches that lie one behind the other. -/
def endsL : Nat → List (List Ins) → List Int
  | _, [] => []
  | p, b :: r => (((p + b.length : Nat) : Int) - 1) :: endsL (p + b.length) r
theorem endsL_len : ∀ (bs : List (List Ins)) (p : Nat), (endsL p bs).length = bs.length
  | [], _ => rfl
  | b :: r, p => by show _ + 1 = _ + 1; rw [endsL_len r]
theorem endsL_at : ∀ {bs : List (List Ins)} {p i : Nat} {b : List Ins}, bs[i]? = some b → (endsL p bs)[i]? = some (((p + (bs.take i).flatten.length + b.length : Nat) : Int) - 1)
  | [], _, _, _, h => by simp at h
  | c :: r, p, 0, b, h => by
    simp at h
    subst h
    simp [endsL]
  | c :: r, p, i + 1, b, h => by
    have := endsL_at (p := p + c.length) (show r[i]? = some b by simpa using h)
    show (endsL (p + c.length) r)[i]? = _
    rw [this, List.take_succ_cons, List.flatten_cons, List.length_append]
    congr 3
    omega
end Go.Proofs.YtlhdofkgcbmnnaaGreatDoor

namespace Go.Proofs.YtlhdofkgcbmnnaaGreatDoor
open Go.RowKit Go.Proofs.Heap Go.Proofs.Sch Go.Proofs.Wide

theorem ins_takes {x : Ins} (h : insB x = true) : takesN x.op = argsN x.op := by
  have := insB_op h
  exact takesN_eq this.1 this.2
/-- A row of branches: the instruction at its end, and the branches ahead of it. -/
theorem brs_last {bs : List (List Ins)} (h0 : 1 ≤ bs.length) (hb : ∀ b ∈ bs, Br b) : ∃ (cs : List (List Ins)) (x : Ins), (∀ b ∈ cs, Br b) ∧ insB x = true ∧ bs.length + argsN x.op = cs.length + 1 ∧ bs.flatten = cs.flatten ++ [x] := by
  obtain ⟨l, c, rfl⟩ : ∃ l c, bs = l ++ [c] := by
    have hne : bs ≠ [] := by intro e; subst e; simp at h0
    exact ⟨bs.dropLast, bs.getLast hne, (List.dropLast_concat_getLast hne).symm⟩
  have hc := hb c (by simp)
  cases hc with
  | mk ds x h hn hx =>
    refine ⟨l ++ ds, x, fun b hm => ?_, hx, ?_, ?_⟩
    · rcases List.mem_append.1 hm with hm | hm
      · exact hb b (by simp [hm])
      · exact h b hm
    · rw [List.length_append, List.length_append, List.length_singleton, hn]; omega
    · simp
theorem brs_len {bs : List (List Ins)} (hb : ∀ b ∈ bs, Br b) : bs.length ≤ bs.flatten.length := by
  induction bs with
  | nil => simp
  | cons b r ih =>
    have h1 := (hb b (by simp)).pos
    have h2 := ih (fun c hc => hb c (by simp [hc]))
    rw [List.flatten_cons, List.length_append, List.length_cons]; omega
theorem take_last {l T : List Ins} {k : Nat} {x : Ins} (h : l.take k = T ++ [x]) (hk : k ≤ l.length) : k = T.length + 1 ∧ l[T.length]? = some x ∧ l.take T.length = T := by
  have h1 := congrArg List.length h
  rw [List.length_take, List.length_append, List.length_singleton, Nat.min_eq_left hk] at h1
  subst h1
  refine ⟨rfl, ?_, ?_⟩
  · have h2 : (l.take (T.length + 1))[T.length]? = some x := by rw [h]; simp
    rw [List.getElem?_take] at h2
    simpa using h2
  · have h2 : (l.take (T.length + 1)).take T.length = T := by rw [h]; simp
    rw [List.take_take, Nat.min_eq_left (by omega)] at h2
    exact h2

set_option maxRecDepth 20000 in
set_option maxHeartbeats 8000000 in
theorem r_start (code : List Ins) (p : Option Addr) (cap : Nat) (w : World) (hl : code.length ≤ 64) (hf : IP w w.heap.size p code) (l1 b : List Ins) (e : Nat) (hb : Br b) (he : code.take (e + 1) = l1 ++ b) (hec : e < code.length) :
    Calls Tryz.prog 112 #[.slice p code.length cap, .int .i64 (e : Int)] w fun r w' => r = .returned (.int .i64 (l1.length : Int)) ∧ Keep (fun _ => False) w w' := by
  have HF := hid (fun (wy : World) (hk : Keep (fun _ => False) w wy) => IP.low hf (Low.keep0 hk))
  have HL := hid hl; have HB := hid hb; have HE := hid he; have HEC := hid hec
  clear hf hl hb he hec
  go_enter Tryz.func112, Tryz.ntmps112
  go_wp2_with fail
  go_loopw [5, 6] (fun wt i wr => ∃ (bs : List (List Ins)) (k : Nat), i = .int .i64 ((k : Int) - 1) ∧ wt = iV bs.length ∧ 1 ≤ bs.length ∧ (∀ b ∈ bs, Br b) ∧ code.take k = l1 ++ bs.flatten ∧ k ≤ code.length ∧ Keep (fun _ => False) w wr) (fun _ i _ => ((intOf i) + 1).toNat)
  case atStart => exact ⟨[b], e + 1, by first | rfl | (congr 1; omega) | (simp), rfl, by simp, by intro c hc; rw [List.mem_singleton.1 hc]; exact HB.out, by rw [HE.out]; simp, by have := HEC.out; omega, Keep.refl _ _⟩
  case round =>
    obtain ⟨bs, k, rfl, rfl, h1, hbs, ht, hk, hkr⟩ := hrel
    obtain ⟨cs, x, hcs, hx, hn, hfl⟩ := brs_last h1 hbs
    rw [hfl, ← List.append_assoc] at ht
    obtain ⟨hk1, hxk, htk⟩ := take_last ht hk
    have hbl : bs.length ≤ 64 := by
      have h2 := brs_len hbs
      have h3 := congrArg List.length ht
      rw [List.length_take, Nat.min_eq_left hk, List.length_append, List.length_append] at h3
      rw [hfl, List.length_append] at h2
      have := HL.out
      omega
    obtain ⟨j, hj⟩ : ∃ j, (l1 ++ cs.flatten).length = j := ⟨_, rfl⟩
    rw [hj] at hk1 hxk htk
    subst hk1
    have HCS := hid hcs; have HTK := hid htk; have HKR := hid hkr; have HJ := hid hj
    have hjl : j < code.length := by omega
    have hHL := HL.out
    have hme : ((j + 1 : Nat) : Int) - 1 = (j : Int) := by omega
    rw [hme]
    have g1 : decide ((0 : Int) ≤ (j : Int)) = true := decide_eq_true (by omega)
    obtain ⟨bb, off, rfl, hbb, c0, _, _, _, _, _⟩ := IP.at (HF.out _ hkr) hxk
    have hin : (0 : Int) ≤ (j : Int) ∧ (j : Int) < (code.length : Int) := ⟨by omega, by omega⟩
    have HTX := hid (ins_takes hx)
    have han := argsN_le x.op
    have HTKS := hid (fun wy => takes_of x.op wy)
    rw [HTX.out] at HTKS
    generalize argsN x.op = ar at *
    obtain ⟨m, hm⟩ : ∃ m : Nat, cs.length = m := ⟨_, rfl⟩
    obtain ⟨q, hq⟩ : ∃ q : Nat, bs.length = q := ⟨_, rfl⟩
    have HM := hid hm
    rw [hm] at hn
    rw [hq] at hn hbl h1 ⊢
    have hsub : (q : Int) - 1 + (ar : Int) = (m : Int) := by omega
    clear hx hfl hxk htk ht hcs hbs hkr hbb hk hm hq hj hme
    go_wp2_with fail
    refine (HTKS.out wr).mono ?_
    rintro r w2 ⟨rfl, hk2⟩
    have HK2 := hid (HKR.out.trans hk2)
    clear hk2 c0
    by_cases hm0 : m = 0
    · have z1 : ((m : Int) == 0) = true := by rw [hm0]; rfl
      have z1n : (m == 0) = true := by rw [hm0]; rfl
      have HLJ : Hid (l1.length = j) := hid (by
        have h := HM.out
        rw [hm0] at h
        have e : cs = [] := List.eq_nil_of_length_eq_zero h
        have h2 := HJ.out
        rw [e] at h2
        simpa using h2)
      clear hm0
      go_wp2
      go_ret
      exact ⟨by rw [HLJ.out]; rfl, HK2.out⟩
    · have z1 : ((m : Int) == 0) = false := by rw [beq_eq_false_iff_ne]; omega
      have z1n : (m == 0) = false := by rw [beq_eq_false_iff_ne]; exact hm0
      have hm1 : 1 ≤ m := by omega
      have hm64 : m ≤ 68 := by omega
      clear hm0 hsub
      go_wp2
      go_roundw
      case rel => exact ⟨cs, j, by first | rfl | go_num, by rw [HM.out]; go_num, by rw [HM.out]; exact hm1, HCS.out, HTK.out, by omega, HK2.out⟩
      case measure => simp [intOf] <;> omega

theorem info_intE : (Tryz.prog.info? 3).map (fun i => (i.zero, i.size, i.bytes)) = some (some (.int .i64 0), 1, 8) := by kernel_rfl
abbrev iL (l : List Int) : List Value := l.map (Value.int .i64)
set_option maxRecDepth 20000 in
set_option maxHeartbeats 8000000 in
theorem r_branches (code : List Ins) (p : Option Addr) (cap : Nat) (w : World) (hl : code.length ≤ 64) (hf : IP w w.heap.size p code) (l1 : List Ins) (bs : List (List Ins)) (x : Ins) (e : Nat) (hbs : ∀ b ∈ bs, Br b) (hn : bs.length = argsN x.op) (hx : insB x = true) (he : code.take (e + 1) = l1 ++ bs.flatten ++ [x]) (hec : e < code.length) :
    Calls Tryz.prog 83 #[.slice p code.length cap, .int .i64 (e : Int)] w fun r w' => ∃ v, r = .returned v ∧ w'.ownsRow w.heap.size 3 1 v bs.length (iL (endsL l1.length bs)) ∧ Keep (fun _ => False) w w' := by
  obtain ⟨i0, hi0, hz0, hz1, hz2⟩ := info_parts' info_intE
  have HFM := hid (fun (wy : World) (hk : Keep (fun _ => False) w wy) => IP.mono (IP.low hf (Low.keep0 hk)) hk.size)
  have HF := hid (fun (wy : World) (hk : Keep (fun _ => False) w wy) => IP.low hf (Low.keep0 hk))
  obtain ⟨hk1, hxk, htk⟩ := take_last he (by omega)
  obtain ⟨j, hj⟩ : ∃ j, (l1 ++ bs.flatten).length = j := ⟨_, rfl⟩
  rw [hj] at hk1 hxk htk
  obtain rfl : e = j := by omega
  have HJ := hid hj; have HXK := hid hxk; have HTK := hid htk; have HBS := hid hbs; have HL := hid hl
  have HTX := hid (ins_takes hx)
  have han := argsN_le x.op
  have HTKS := hid (fun wy => takes_of x.op wy)
  rw [HTX.out, ← hn] at HTKS
  obtain ⟨q, hq⟩ : ∃ q, bs.length = q := ⟨_, rfl⟩
  have HQ := hid hq
  rw [← hn, hq] at han
  rw [hq] at HTKS ⊢
  have HO0 : Hid ((w.alloc (.cells #[] 3)).ownsRow w.heap.size 3 1 (.slice (some ⟨w.heap.size, 0, none⟩) 0 0) 0 (iL (endsL e []))) := hid (World.ownsRow_made w #[] 0 (Nat.le_refl _) (by unfold maxLen; omega) (by simp))
  have HK0 := hid ((Keep.refl (fun _ => False) w).alloc (.cells #[] 3))
  clear hf hk1 hxk htk he hbs hn hx hj hq hl
  have hl64 := HL.out
  have hec2 : (e : Int) < (code.length : Int) := by omega
  go_enter Tryz.func83, Tryz.ntmps83
  go_wp2_with fail
  go_loopw [5, 6, 7] (fun o at_ i wr => ∃ (b1 b2 : List (List Ins)) (a : Option Addr) (c n : Nat), b1 ++ b2 = bs ∧ b2.length = n ∧ i = iV n ∧ at_ = .int .i64 (((l1.length + b1.flatten.length : Nat) : Int) - 1) ∧ o = .slice a n c ∧ wr.ownsRow w.heap.size 3 1 (.slice a n c) n (iL (endsL (l1.length + b1.flatten.length) b2)) ∧ Keep (fun _ => False) w wr) (fun _ _ i _ => 4 - (intOf i).toNat)
  case atStart => exact ⟨bs, [], _, _, 0, by simp, rfl, rfl, by have h := HJ.out; rw [List.length_append] at h; rw [h], rfl, by simpa [endsL] using HO0.out, HK0.out⟩
  case round =>
    clear HO0 HK0
    obtain ⟨b1, b2, a, c, n, hb, hbn, rfl, rfl, rfl, hown, hkr⟩ := hrel
    have HB := hid hb; have HBN := hid hbn; have HO := hid hown; have HKR := hid hkr
    obtain ⟨bb, off, rfl, hbb, c0, _, _, _, _, _⟩ := IP.at (HF.out _ hkr) HXK.out
    have hin : (0 : Int) ≤ (e : Int) ∧ (e : Int) < (code.length : Int) := ⟨by omega, by omega⟩
    have hnq : n ≤ q := by have h := congrArg List.length hb; rw [List.length_append, hbn, HQ.out] at h; omega
    clear hb hbn hown hkr hbb
    have HC0 := hid c0
    go_wp2_with fail
    refine (HTKS.out wr).mono ?_
    rintro r w2 ⟨rfl, hk2⟩
    have HK2 := hid (HKR.out.trans hk2)
    have HO2 := hid (owns_keep HO.out (fun g hg => hk2.block g (HO.out.lt g hg).2 id))
    clear hk2 c0
    by_cases hlt : n < q
    · have g1 : decide ((n : Int) < (q : Int)) = true := decide_eq_true (by omega)
      have g1n : decide (n < q) = true := decide_eq_true hlt
      obtain ⟨c1, b, hc1⟩ : ∃ c1 b, b1 = c1 ++ [b] := by
        have hne : b1 ≠ [] := by
          intro e1
          have h := congrArg List.length HB.out
          rw [e1, List.nil_append, HBN.out, HQ.out] at h
          omega
        exact ⟨b1.dropLast, b1.getLast hne, (List.dropLast_concat_getLast hne).symm⟩
      subst hc1
      have hbr : Br b := HBS.out b (by rw [← HB.out]; simp)
      have hpos := hbr.pos
      have hfl : (c1 ++ [b]).flatten.length = c1.flatten.length + b.length := by simp
      have HCB : Hid (c1 ++ (b :: b2) = bs) := hid (by rw [← HB.out]; simp)
      obtain ⟨f, hff⟩ : ∃ f : Nat, l1.length + c1.flatten.length + b.length = f + 1 := ⟨l1.length + c1.flatten.length + b.length - 1, by omega⟩
      have hatI : (((l1.length + (c1 ++ [b]).flatten.length : Nat) : Int) - 1) = (f : Int) := by rw [hfl]; omega
      have HEN : Hid (endsL (l1.length + c1.flatten.length) (b :: b2) = (f : Int) :: endsL (l1.length + (c1 ++ [b]).flatten.length) b2) := hid (by
        show (((l1.length + c1.flatten.length + b.length : Nat) : Int) - 1) :: endsL (l1.length + c1.flatten.length + b.length) b2 = _
        rw [hfl, ← Nat.add_assoc]
        congr 1
        omega)
      have hfe : f + 1 ≤ e := by
        have h := HJ.out
        rw [← HCB.out, List.length_append, List.flatten_append, List.length_append, List.flatten_cons, List.length_append] at h
        omega
      have HST := hid (fun (wy : World) (hk : Keep (fun _ => False) w wy) => r_start code (some ⟨bb, off, none⟩) cap wy HL.out (HFM.out wy hk) (l1 ++ c1.flatten) b f hbr (by
        have h : (code.take e).take (f + 1) = l1 ++ c1.flatten ++ b := by
          rw [HTK.out, ← HCB.out, List.flatten_append, List.flatten_cons]
          have e2 : l1 ++ (c1.flatten ++ (b ++ b2.flatten)) = (l1 ++ c1.flatten ++ b) ++ b2.flatten := by simp [List.append_assoc]
          rw [e2, List.take_left' (by rw [List.length_append, List.length_append]; omega)]
        rw [List.take_take, Nat.min_eq_left hfe] at h
        exact h) (by omega))
      have hLE : (l1 ++ c1.flatten).length = l1.length + c1.flatten.length := List.length_append
      rw [hLE] at HST
      obtain ⟨X, hX⟩ : ∃ X, iL (endsL (l1.length + (c1 ++ [b]).flatten.length) b2) = X := ⟨_, rfl⟩
      have HX := hid hX
      rw [hX] at HO2
      rw [hatI]
      obtain ⟨L2, hL2⟩ : ∃ L2, l1.length + c1.flatten.length = L2 := ⟨_, rfl⟩
      have HL2 := hid hL2
      rw [hL2] at HST
      have hfI : (f : Int) < (code.length : Int) := by omega
      have hLB : L2 ≤ 64 := by omega
      clear hX hL2 hbr hpos hfl hff hatI hLE hlt
      have hown1 := World.ownsRow_lit (size := 1) (base := w.heap.size) w2 #[.int .i64 (f : Int)] 1 HK2.out.size (by unfold maxLen; omega) (by rfl) (e := 3)
      obtain ⟨w3, hw3, hb3, hs3, hk3⟩ := box1 w2 #[.int .i64 (f : Int)] 3
      rw [← hw3] at hown1
      have HO3 := hid hown1
      have HR3 := hid (rd_own (owns_keep HO2.out (fun g hg => hk3.block g (HO2.out.lt g hg).2 id)) (fun u hu => by rw [← HX.out] at hu; obtain ⟨z, _, rfl⟩ := List.mem_map.1 hu; rfl))
      have HK3 := hid (HK2.out.trans hk3)
      have HNW : Hid (w2.heap.size < w3.heap.size) := hid (by omega)
      have HWN : Hid (w.heap.size ≤ w2.heap.size) := hid HK2.out.size
      clear hown1 hb3 hs3 hk3
      go_wp2_with (at_builtin; go_loud (rw [← hw3]); go_loud (refine wpList_append_rd rfl (.tmp 22) (.tmp 23) _ rfl w.heap.size _ i0 _ 1 8 Tryz.underlying53 hi0 hz0 hz1 hz2 rfl (by decide) _ 1 _ (by rfl) HO3.out _ n _ (by rfl) HR3.out (by unfold maxLen; omega) (by omega) HK3.out.size ?_))
      intro v' wn hown hgrow hat hn5
      rw [← hw3] at hgrow
      clear hw3
      rw [Nat.add_comm 1 n] at hown
      obtain ⟨vp, vc, rfl⟩ := owns_val hown
      have HO4 : Hid (wn.ownsRow w.heap.size 3 1 (.slice vp (n + 1) vc) (n + 1) (iL (endsL (l1.length + c1.flatten.length) (b :: b2)))) := hid (by
        rw [HEN.out]
        show wn.ownsRow _ _ _ _ _ ([Value.int .i64 (f : Int)] ++ iL (endsL (l1.length + (c1 ++ [b]).flatten.length) b2))
        rw [HX.out]
        exact hown)
      have HK4 := hid (HK3.out.grown hgrow (fun g hg => .inl (HO3.out.lt g hg).1))
      clear hown hgrow hat hn5
      go_wp2_with fail
      refine (HST.out wn HK4.out).mono ?_
      rintro r w5 ⟨rfl, hk5⟩
      have HO5 := hid (owns_keep HO4.out (fun g hg => hk5.block g (HO4.out.lt g hg).2 id))
      have HK5 := hid (HK4.out.trans hk5)
      clear hk5
      go_wp2
      go_roundw
      case rel => exact ⟨c1, b :: b2, vp, vc, n + 1, HCB.out, by rw [List.length_cons, HBN.out], by go_num, by rw [HL2.out], rfl, HO5.out, HK5.out⟩
      case measure => simp [intOf] <;> omega
    · have g1 : decide ((n : Int) < (q : Int)) = false := decide_eq_false (by omega)
      have g1n : decide (n < q) = false := decide_eq_false hlt
      have hnq2 : n = q := by omega
      have HB1 : Hid (b1 = []) := hid (by
        have h := congrArg List.length HB.out
        rw [List.length_append, HBN.out, HQ.out] at h
        exact List.eq_nil_of_length_eq_zero (by omega))
      have HB2 : Hid (b2 = bs) := hid (by have h := HB.out; rw [HB1.out, List.nil_append] at h; exact h)
      have HOF : Hid (w2.ownsRow w.heap.size 3 1 (.slice a n c) q (iL (endsL l1.length bs))) := hid (by
        have h := HO2.out
        rw [HB1.out, HB2.out] at h
        rw [← hnq2]
        simpa using h)
      clear hlt hnq2 hnq
      go_wp2
      go_ret
      exact ⟨_, rfl, HOF.out, HK2.out⟩
end Go.Proofs.YtlhdofkgcbmnnaaGreatDoor

namespace Go.Proofs.YtlhdofkgcbmnnaaGreatDoor
open Go.RowKit Go.Proofs.Heap Go.Proofs.Wide

theorem dg_zero (i : Nat) : dgN 0 i = 0 := by unfold dgN; simp
theorem minus_step {m n k bo : Nat} (hb : bo ≤ 1) (h : (m - n) / 256 ^ k + bo + n / 256 ^ k = m / 256 ^ k) :
    ∃ b2 : Nat, b2 ≤ 1 ∧ (m - n) / 256 ^ (k + 1) + b2 + n / 256 ^ (k + 1) = m / 256 ^ (k + 1) ∧ dgN (m - n) k + dgN n k + bo = dgN m k + 256 * b2 := by
  have h1 := dg_split (m - n) k; have h2 := dg_split n k; have h3 := dg_split m k
  have l1 := dg_lt (m - n) k; have l2 := dg_lt n k; have l3 := dg_lt m k
  exact ⟨m / 256 ^ (k + 1) - n / 256 ^ (k + 1) - (m - n) / 256 ^ (k + 1), by omega, by omega, by omega⟩
theorem add_step {m n k c : Nat} (h : (m + n) / 256 ^ k = m / 256 ^ k + n / 256 ^ k + c) :
    (dgN m k + dgN n k + c) % 256 = dgN (m + n) k ∧ (m + n) / 256 ^ (k + 1) = m / 256 ^ (k + 1) + n / 256 ^ (k + 1) + (dgN m k + dgN n k + c) / 256 := by
  have h1 := dg_split (m + n) k; have h2 := dg_split n k; have h3 := dg_split m k
  have l1 := dg_lt (m + n) k; have l2 := dg_lt n k; have l3 := dg_lt m k
  omega
theorem mul_step {P Q n s j d c : Nat} (h : Q / 256 ^ s = P / 256 ^ s + d * (n / 256 ^ j) + c) :
    (dgN P s + c + d * dgN n j) % 256 = dgN Q s ∧ Q / 256 ^ (s + 1) = P / 256 ^ (s + 1) + d * (n / 256 ^ (j + 1)) + (dgN P s + c + d * dgN n j) / 256 := by
  have h1 := dg_split Q s; have h2 := dg_split P s
  have l1 := dg_lt Q s; have l2 := dg_lt P s
  have h3 : d * (n / 256 ^ j) = 256 * (d * (n / 256 ^ (j + 1))) + d * dgN n j := by
    rw [dg_split n j, Nat.mul_add, Nat.mul_left_comm]
  rw [h3] at h
  omega
theorem dg_same {P Q s t : Nat} (h : Q / 256 ^ s = P / 256 ^ s) (ht : s ≤ t) : dgN Q t = dgN P t := by
  obtain ⟨k, rfl⟩ := Nat.exists_eq_add_of_le ht
  unfold dgN
  rw [Nat.pow_add, ← Nat.div_div_eq_div_mul, ← Nat.div_div_eq_div_mul, h]
theorem dg_lowP {P X i t : Nat} (ht : t < i) : dgN (P + 256 ^ i * X) t = dgN P t := by
  obtain ⟨k, rfl⟩ := Nat.exists_eq_add_of_lt ht
  unfold dgN
  have e : 256 ^ (t + k + 1) * X = 256 ^ t * (256 * (256 ^ k * X)) := by
    rw [show t + k + 1 = t + 1 + k by omega, Nat.pow_add, Nat.pow_succ]
    simp only [Nat.mul_assoc]
  rw [e, Nat.add_mul_div_left _ _ (Nat.pow_pos (by decide)), Nat.add_mul_mod_self_left]
theorem prod_next (m n i : Nat) : m % 256 ^ (i + 1) * n = m % 256 ^ i * n + 256 ^ i * (dgN m i * n) := by
  rw [Nat.mod_pow_succ, Nat.add_mul, Nat.mul_assoc]
  rfl
theorem prod_start (m n i : Nat) : m % 256 ^ (i + 1) * n / 256 ^ i = m % 256 ^ i * n / 256 ^ i + dgN m i * (n / 256 ^ 0) + 0 := by
  rw [prod_next, Nat.add_mul_div_left _ _ (Nat.pow_pos (by decide)), Nat.pow_zero, Nat.div_one, Nat.add_zero]
theorem mod_pow_small {m i : Nat} (h : m < 256 ^ i) : m % 256 ^ i = m := Nat.mod_eq_of_lt h
theorem div_pow_zero {m s : Nat} (h : m < 256 ^ s) : m / 256 ^ s = 0 := Nat.div_eq_of_lt h
theorem dg_high {m s t : Nat} (h : m < 256 ^ s) (ht : s ≤ t) : dgN m t = 0 := by
  unfold dgN
  rw [Nat.div_eq_of_lt (Nat.lt_of_lt_of_le h (Nat.pow_le_pow_right (by decide) ht))]
/-- A digit more of a number that is divided. -/
theorem rest_step {a b i : Nat} (hb : 0 < b) :
    (a / 256 ^ i) % b = (a / 256 ^ (i + 1) % b * 256 + dgN a i) % b ∧ dgN (a / b) i = (a / 256 ^ (i + 1) % b * 256 + dgN a i) / b ∧ (a / 256 ^ (i + 1) % b * 256 + dgN a i) / b < 256 := by
  have h1 := dg_split a i
  have l1 := dg_lt a i
  obtain ⟨A, hA⟩ : ∃ A, a / 256 ^ (i + 1) = A := ⟨_, rfl⟩
  rw [hA] at h1 ⊢
  have h2 := Nat.div_add_mod A b
  have h3 := Nat.mod_lt A hb
  obtain ⟨q, hq⟩ : ∃ q, A / b = q := ⟨_, rfl⟩
  obtain ⟨r, hr⟩ : ∃ r, A % b = r := ⟨_, rfl⟩
  rw [hq, hr] at h2
  rw [hr] at h3 ⊢
  have e : a / 256 ^ i = b * (256 * q) + (r * 256 + dgN a i) := by
    rw [h1, ← h2, Nat.mul_add, Nat.mul_left_comm]
    omega
  have hlt : (r * 256 + dgN a i) / b < 256 := by
    rw [Nat.div_lt_iff_lt_mul hb]
    have : (r + 1) * 256 ≤ b * 256 := Nat.mul_le_mul_right _ h3
    omega
  refine ⟨by rw [e, Nat.mul_add_mod], ?_, hlt⟩
  have hd : a / b / 256 ^ i = 256 * q + (r * 256 + dgN a i) / b := by
    rw [Nat.div_div_eq_div_mul, Nat.mul_comm b, ← Nat.div_div_eq_div_mul, e, Nat.mul_add_div hb]
  show a / b / 256 ^ i % 256 = _
  rw [hd, Nat.mul_add_mod, Nat.mod_eq_of_lt hlt]
theorem dg_shift (r d k : Nat) (hd : d < 256) : dgN (r * 256 + d) k = if k = 0 then d else dgN r (k - 1) := by
  unfold dgN
  cases k with
  | zero => rw [if_pos rfl, Nat.pow_zero, Nat.div_one]; omega
  | succ k =>
    rw [if_neg (by omega), Nat.add_sub_cancel, Nat.pow_succ, Nat.mul_comm (256 ^ k), ← Nat.div_div_eq_div_mul]
    congr 2
    omega
end Go.Proofs.YtlhdofkgcbmnnaaGreatDoor
