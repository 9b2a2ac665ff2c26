/- What is proved: what is wrong with a rule, and with a program of rules. -/
import Derived.Test.YtenoeondfdiklaaEnc1
namespace Go.Proofs.Ytenoeondfdiklaa
open Go.RowKit Go.Proofs.Heap Go.Proofs.Sch Go.Proofs.Wide

def versionB (n : Int) : Bool := decide (1 ≤ n ∧ n ≤ 1073741824)
theorem is_version (n : Int) (w : World) : Calls Try.prog 47 #[.int .i64 n] w fun r w' => r = .returned (.bool (versionB n)) ∧ w = w' := by
  by_cases h1 : 1 ≤ n
  · have g1 : decide (1 ≤ n) = true := decide_eq_true h1
    by_cases h2 : n ≤ 1073741824
    · have g2 : decide (n ≤ 1073741824) = true := decide_eq_true h2
      have G : Hid (versionB n = true) := hid (decide_eq_true ⟨h1, h2⟩)
      go_enter Try.func47, Try.ntmps47
      go_wp2
      go_ret
      exact ⟨by rw [G.out]; rfl, rfl⟩
    · have g2 : decide (n ≤ 1073741824) = false := decide_eq_false h2
      have G : Hid (versionB n = false) := hid (decide_eq_false (fun h => h2 h.2))
      go_enter Try.func47, Try.ntmps47
      go_wp2
      go_ret
      exact ⟨by rw [G.out]; rfl, rfl⟩
  · have g1 : decide (1 ≤ n) = false := decide_eq_false h1
    have G : Hid (versionB n = false) := hid (decide_eq_false (fun h => h1 h.1))
    go_enter Try.func47, Try.ntmps47
    go_wp2
    go_ret
    exact ⟨by rw [G.out]; rfl, rfl⟩

def encRun : List (List Ins) → Nat
  | [] => 0
  | c :: cs => if encC c = 0 then encRun cs else encC c
/-- What is wrong with a rule behind one of another id. -/
def ruleCk (last : Int) (r : Rul) : Nat := if r.new ≤ last ∨ 24 < r.new ∨ r.old < 0 ∨ 24 < r.old then 1 else if r.old = 0 ∧ 0 < r.exprs.length then 4 else if 8 < r.exprs.length then 5 else encRun r.exprs

set_option maxRecDepth 20000 in
set_option maxHeartbeats 8000000 in
theorem rule_check (r : Rul) (last : Int) (q : Option Addr) (qc : Nat) (w : World) (hfit : ∀ c ∈ r.exprs, ∀ x ∈ c, x.k.fit) (hc : EP w w.heap.size q r.exprs) :
    Calls Try.prog 48 #[.agg #[.int .i64 r.new, .int .i64 r.old, .slice q r.exprs.length qc], .int .i64 last] w fun e w' => e = .returned (iV (ruleCk last r)) ∧ Keep (fun _ => False) w w' := by
  obtain ⟨rn, ro, es⟩ := r
  simp only at hfit hc
  obtain ⟨w1, hw1, hb1, hs1, hk1⟩ := box1 w #[.int .i64 rn, .int .i64 ro, .slice q es.length qc] 27
  have HK := hid hk1
  have HD : Hid (∀ wy, Keep (fun _ => False) w1 wy → EP wy wy.heap.size q es) := hid (fun wy hk => EP.mono (EP.low hc (Low.keep0 (hk1.trans hk))) (hk1.trans hk).size)
  have HX := hid hfit
  have HRC : Hid (ruleCk last ⟨rn, ro, es⟩ = if rn ≤ last ∨ 24 < rn ∨ ro < 0 ∨ 24 < ro then 1 else if ro = 0 ∧ 0 < es.length then 4 else if 8 < es.length then 5 else encRun es) := hid rfl
  clear hc hfit hk1 hs1
  go_enter Try.func48, Try.ntmps48
  go_upto_region 1 with fail
  rw [← hw1]
  clear hw1
  generalize w.heap.size = sb at *
  have s0 : w1.cell? ⟨sb, 0, none⟩ = some (.int .i64 rn) := cell_of hb1 (by rfl)
  have s1 : w1.cell? ⟨sb, 1, none⟩ = some (.int .i64 ro) := cell_of hb1 (by rfl)
  have s2 : w1.cell? ⟨sb, 2, none⟩ = some (.slice q es.length qc) := cell_of hb1 (by rfl)
  clear hb1
  by_cases h1 : rn ≤ last
  · have g1 : decide (rn ≤ last) = true := decide_eq_true h1
    have G := hid (HRC.out.trans (if_pos (.inl h1)))
    go_wp2
    go_ret
    exact ⟨by rw [G.out]; rfl, HK.out⟩
  have g1 : decide (rn ≤ last) = false := decide_eq_false h1
  by_cases h2 : 24 < rn
  · have g2 : decide (24 < rn) = true := decide_eq_true h2
    have G := hid (HRC.out.trans (if_pos (.inr (.inl h2))))
    go_wp2
    go_ret
    exact ⟨by rw [G.out]; rfl, HK.out⟩
  have g2 : decide (24 < rn) = false := decide_eq_false h2
  by_cases h3 : ro < 0
  · have g3 : decide (ro < 0) = true := decide_eq_true h3
    have G := hid (HRC.out.trans (if_pos (.inr (.inr (.inl h3)))))
    go_wp2
    go_ret
    exact ⟨by rw [G.out]; rfl, HK.out⟩
  have g3 : decide (ro < 0) = false := decide_eq_false h3
  by_cases h4 : 24 < ro
  · have g4 : decide (24 < ro) = true := decide_eq_true h4
    have G := hid (HRC.out.trans (if_pos (.inr (.inr (.inr h4)))))
    go_wp2
    go_ret
    exact ⟨by rw [G.out]; rfl, HK.out⟩
  have g4 : decide (24 < ro) = false := decide_eq_false h4
  have HR2 := hid (HRC.out.trans (if_neg (by rintro (h | h | h | h) <;> contradiction)))
  clear HRC h1 h2 h3 h4
  by_cases h5 : ro = 0 ∧ 0 < es.length
  · have g5 : (ro == 0) = true := beq_iff_eq.2 h5.1
    have g6 : decide ((0 : Int) < (es.length : Int)) = true := decide_eq_true (by omega)
    have g7 : decide (0 < es.length) = true := decide_eq_true h5.2
    have G := hid (HR2.out.trans (if_pos h5))
    go_wp2
    go_ret
    exact ⟨by rw [G.out]; rfl, HK.out⟩
  have HR3 := hid (HR2.out.trans (if_neg h5))
  clear HR2
  go_upto_region 3 with fail
  clear g1 g2 g3 g4
  go_cut [29] from 10 to 43 (fun v wx => v = .bool false ∧ w1 = wx)
  case first =>
    by_cases h6 : ro = 0
    · have g5 : (ro == 0) = true := beq_iff_eq.2 h6
      have g6 : decide ((0 : Int) < (es.length : Int)) = false := decide_eq_false (by omega)
      have g7 : decide (0 < es.length) = false := decide_eq_false (by omega)
      go_wp2
      go_meet
      case rel => exact ⟨rfl, rfl⟩
    · have g5 : (ro == 0) = false := beq_eq_false_iff_ne.2 h6
      go_wp2
      go_meet
      case rel => exact ⟨rfl, rfl⟩
  case rest =>
    obtain ⟨rfl, rfl⟩ := hcut
    clear h5
    by_cases h8 : 8 < es.length
    · have g5 : decide ((8 : Int) < (es.length : Int)) = true := decide_eq_true (by omega)
      have g6 : decide (8 < es.length) = true := decide_eq_true h8
      have G := hid (HR3.out.trans (if_pos h8))
      go_wp2
      go_ret
      exact ⟨by rw [G.out]; rfl, HK.out⟩
    have g5 : decide ((8 : Int) < (es.length : Int)) = false := decide_eq_false (by omega)
    have g6 : decide (8 < es.length) = false := decide_eq_false h8
    have G := hid (HR3.out.trans (if_neg h8))
    clear HR3
    go_wp2_with fail
    clear g5 g6 s0 s1 s2
    go_loopw [6, 7, 8, 47] (fun _ _ _ i wr => ∃ k : Nat, k ≤ es.length ∧ i = iV k ∧ encRun es = encRun (es.drop k) ∧ Keep (fun _ => False) w1 wr) (fun _ _ _ i _ => es.length + 1 - (intOf i).toNat)
    case atStart => exact ⟨0, Nat.zero_le _, rfl, rfl, Keep.refl _ _⟩
    case round =>
      obtain ⟨k, hk, rfl, heq, hkr⟩ := hrel
      have HEQ := hid heq; have HKR := hid hkr
      clear heq hkr
      by_cases hlt : k < es.length
      · obtain ⟨e, hek⟩ : ∃ e, es[k]? = some e := ⟨es[k], by simp [hlt]⟩
        have HEX := hid (show encRun es = if encC e = 0 then encRun (es.drop (k + 1)) else encC e by rw [HEQ.out, drop_next hek]; rfl)
        have HXE := hid (HX.out e (List.mem_of_getElem? hek))
        obtain ⟨eb, eo, eq, ec, rfl, hb2, e0, hec, he⟩ := EP.at (HD.out _ HKR.out) hek
        have hin : (0 : Int) ≤ (k : Int) ∧ (k : Int) < (es.length : Int) := ⟨by omega, by omega⟩
        have HE := hid he
        clear he hec hb2 hek HEQ
        go_wp2_with fail
        refine (expr_encode e eq ec _ HXE.out HE.out).mono ?_
        rintro r w2 ⟨⟨s, rfl⟩, hk2⟩
        have HK2 := hid (HKR.out.trans hk2)
        clear hk2 e0
        by_cases hz : encC e = 0
        · have G3 := hid (HEX.out.trans (if_pos hz))
          rw [hz]
          clear hz
          go_wp2
          go_roundw
          case rel => exact ⟨k + 1, by omega, by go_num, G3.out, HK2.out⟩
          case measure => simp [intOf]; omega
        · have G3 := hid (HEX.out.trans (if_neg hz))
          have G4 := hid (G.out.trans G3.out)
          clear HEX G G3
          generalize encC e = er at *
          have g1 : ((er : Int) != 0) = true := by simp only [bne, beq_eq_false_iff_ne.2 (show (er : Int) ≠ 0 by omega)]; rfl
          have g2 : (er != 0) = true := by simp only [bne, beq_eq_false_iff_ne.2 hz]; rfl
          go_wp2
          go_ret
          exact ⟨by rw [G4.out]; rfl, HK.out.trans HK2.out⟩
      · obtain rfl : k = es.length := by omega
        have G3 : Hid (ruleCk last ⟨rn, ro, es⟩ = 0) := hid (by rw [G.out, HEQ.out, List.drop_length]; rfl)
        have g0 : decide ((es.length : Int) < (es.length : Int)) = false := decide_eq_false (by omega)
        go_wp2
        go_ret
        exact ⟨by rw [G3.out]; rfl, HK.out.trans HKR.out⟩

def rulesRun (last : Int) : List Rul → Nat
  | [] => 0
  | r :: rs => if ruleCk last r = 0 then rulesRun r.new rs else ruleCk last r
/-- The error of a program of rules. -/
def progC (a b : Int) (rs : List Rul) : Nat := if versionB a = true ∧ versionB b = true then rulesRun 0 rs else 1

set_option maxRecDepth 20000 in
set_option maxHeartbeats 8000000 in
theorem prog_check (a b : Int) (rs : List Rul) (q : Option Addr) (qc : Nat) (w : World) (hl : rs.length ≤ 65536) (hfit : ∀ r ∈ rs, ∀ c ∈ r.exprs, ∀ x ∈ c, x.k.fit) (hc : UP w w.heap.size q rs) :
    Calls Try.prog 37 #[.agg #[.int .i64 a, .int .i64 b, .slice q rs.length qc]] w fun e w' => e = .returned (iV (progC a b rs)) ∧ Keep (fun _ => False) w w' := by
  obtain ⟨w1, hw1, hb1, hs1, hk1⟩ := box1 w #[.int .i64 a, .int .i64 b, .slice q rs.length qc] 35
  have HK := hid hk1
  have HD : Hid (∀ wy, Keep (fun _ => False) w1 wy → UP wy wy.heap.size q rs) := hid (fun wy hk => UP.mono (UP.low hc (Low.keep0 (hk1.trans hk))) (hk1.trans hk).size)
  have HX := hid hfit
  have HPC : Hid (progC a b rs = if versionB a = true ∧ versionB b = true then rulesRun 0 rs else 1) := hid rfl
  have HVA := hid (fun w => is_version a w)
  have HVB := hid (fun w => is_version b w)
  clear hc hfit hk1 hs1
  go_enter Try.func37, Try.ntmps37
  go_upto_region 1 with fail
  rw [← hw1]
  clear hw1
  generalize w.heap.size = sb at *
  have s0 : w1.cell? ⟨sb, 0, none⟩ = some (.int .i64 a) := cell_of hb1 (by rfl)
  have s1 : w1.cell? ⟨sb, 1, none⟩ = some (.int .i64 b) := cell_of hb1 (by rfl)
  have s2 : w1.cell? ⟨sb, 2, none⟩ = some (.slice q rs.length qc) := cell_of hb1 (by rfl)
  clear hb1
  go_wp2_with fail
  refine (HVA.out _).mono ?_
  rintro r w2 ⟨rfl, rfl⟩
  cases hva : versionB a
  · have G := hid (HPC.out.trans (if_neg (by rw [hva]; simp)))
    clear hva
    go_wp2
    go_ret
    exact ⟨by rw [G.out]; rfl, HK.out⟩
  have HA := hid hva
  clear hva
  go_wp2_with fail
  refine (HVB.out _).mono ?_
  rintro r w2 ⟨rfl, rfl⟩
  cases hvb : versionB b
  · have G := hid (HPC.out.trans (if_neg (by rw [hvb]; simp)))
    clear hvb
    go_wp2
    go_ret
    exact ⟨by rw [G.out]; rfl, HK.out⟩
  have G := hid (HPC.out.trans (if_pos ⟨HA.out, hvb⟩))
  clear hvb HPC HVA HVB HA
  go_wp2_with fail
  clear s0 s1 s2
  go_loopw [3, 5, 6, 20] (fun v _ _ i wr => ∃ (k : Nat) (last : Int), k ≤ rs.length ∧ i = iV k ∧ v = .int .i64 last ∧ rulesRun 0 rs = rulesRun last (rs.drop k) ∧ Keep (fun _ => False) w1 wr) (fun _ _ _ i _ => rs.length + 1 - (intOf i).toNat)
  case atStart => exact ⟨0, 0, Nat.zero_le _, rfl, rfl, rfl, Keep.refl _ _⟩
  case round =>
    obtain ⟨k, last, hk, rfl, rfl, heq, hkr⟩ := hrel
    have HEQ := hid heq; have HKR := hid hkr
    clear heq hkr
    by_cases hlt : k < rs.length
    · obtain ⟨u, huk⟩ : ∃ u, rs[k]? = some u := ⟨rs[k], by simp [hlt]⟩
      have HEX := hid (show rulesRun 0 rs = if ruleCk last u = 0 then rulesRun u.new (rs.drop (k + 1)) else ruleCk last u by rw [HEQ.out, drop_next huk]; rfl)
      have HXE := hid (HX.out u (List.mem_of_getElem? huk))
      obtain ⟨eb, eo, eq, ec, rfl, hb2, e0, e1, e2, hec, he⟩ := UP.at (HD.out _ HKR.out) huk
      have hin : (0 : Int) ≤ (k : Int) ∧ (k : Int) < (rs.length : Int) := ⟨by omega, by omega⟩
      obtain ⟨un, uo, us⟩ := u
      simp only at e0 e1 e2 he hec HEX HXE
      obtain ⟨w2, hw2, hb2', hs2, hk2⟩ := box1 wr #[.int .i64 un, .int .i64 uo, .slice eq us.length ec] 27
      have HK2 := hid (HKR.out.trans hk2)
      have HE := hid (EP.mono (EP.low he (Low.keep0 hk2)) hk2.size)
      clear he hec hb2 huk HEQ hs2 hk2
      go_upto_region 7 with fail
      rw [← hw2]
      clear hw2 e0 e1 e2
      generalize wr.heap.size = ub at *
      have HW : Hid (∀ wy, Keep (fun _ => False) w2 wy → wy.cell? ⟨ub, 0, none⟩ = some (.int .i64 un) ∧ wy.cell? ⟨ub, 1, none⟩ = some (.int .i64 uo) ∧ wy.cell? ⟨ub, 2, none⟩ = some (.slice eq us.length ec)) := hid (fun wy hk =>
        ⟨cell_of (hk.get hb2' id) (by rfl), cell_of (hk.get hb2' id) (by rfl), cell_of (hk.get hb2' id) (by rfl)⟩)
      clear hb2'
      obtain ⟨t0, t1, t2⟩ := HW.out _ (Keep.refl _ _)
      go_wp2_with fail
      refine (rule_check ⟨un, uo, us⟩ last eq ec _ HXE.out HE.out).mono ?_
      rintro r w3 ⟨rfl, hk3⟩
      obtain ⟨t0, t1, t2⟩ := HW.out _ hk3
      have HK3 := hid (HK2.out.trans hk3)
      clear hk3
      by_cases hz : ruleCk last ⟨un, uo, us⟩ = 0
      · have G3 := hid (HEX.out.trans (if_pos hz))
        rw [hz]
        clear hz
        go_wp2
        go_roundw
        case rel => exact ⟨k + 1, un, by omega, by go_num, rfl, G3.out, HK3.out⟩
        case measure => simp [intOf]; omega
      · have G3 := hid (HEX.out.trans (if_neg hz))
        have G4 := hid (G.out.trans G3.out)
        clear HEX G G3
        generalize ruleCk last ⟨un, uo, us⟩ = er at *
        have g1 : ((er : Int) != 0) = true := by simp only [bne, beq_eq_false_iff_ne.2 (show (er : Int) ≠ 0 by omega)]; rfl
        have g2 : (er != 0) = true := by simp only [bne, beq_eq_false_iff_ne.2 hz]; rfl
        go_wp2
        go_ret
        exact ⟨by rw [G4.out]; rfl, HK.out.trans HK3.out⟩
    · obtain rfl : k = rs.length := by omega
      have G3 : Hid (progC a b rs = 0) := hid (by rw [G.out, HEQ.out, List.drop_length]; rfl)
      have g0 : decide ((rs.length : Int) < (rs.length : Int)) = false := decide_eq_false (by omega)
      go_wp2
      go_ret
      exact ⟨by rw [G3.out]; rfl, HK.out.trans HKR.out⟩
end Go.Proofs.Ytenoeondfdiklaa
