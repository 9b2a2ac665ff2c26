/- What is proved: what is wrong with a rule, and with a program of rules. -/
import Derived.Test.YtjebgidddfamlaaMSchLaw
import Derived.Test.YtjebgidddfamlaaMSchCheck
import Derived.Test.YtjebgidddfamlaaMExpr3
namespace Go.Proofs.Ytjebgidddfamlaa
open Go.RowKit Go.Proofs.Heap Go.Proofs.Sch Go.Proofs.Wide

def versionB (n : Int) : Bool := decide (1 ≤ n ∧ n ≤ 1073741824)
theorem is_version (n : Int) (w : World) : Calls Try.prog 71 #[.int .i64 n] w fun r w' => r = .returned (.bool (versionB n)) ∧ w = w' := by
  by_cases h1 : 1 ≤ n
  · have g1 : decide (1 ≤ n) = true := decide_eq_true h1
    by_cases h2 : n ≤ 1073741824
    · have g2 : decide (n ≤ 1073741824) = true := decide_eq_true h2
      have G : Hid (versionB n = true) := hid (decide_eq_true ⟨h1, h2⟩)
      go_enter Try.func71, Try.ntmps71
      go_wp2
      go_ret
      exact ⟨by rw [G.out]; rfl, rfl⟩
    · have g2 : decide (n ≤ 1073741824) = false := decide_eq_false h2
      have G : Hid (versionB n = false) := hid (decide_eq_false (fun h => h2 h.2))
      go_enter Try.func71, Try.ntmps71
      go_wp2
      go_ret
      exact ⟨by rw [G.out]; rfl, rfl⟩
  · have g1 : decide (1 ≤ n) = false := decide_eq_false h1
    have G : Hid (versionB n = false) := hid (decide_eq_false (fun h => h1 h.1))
    go_enter Try.func71, Try.ntmps71
    go_wp2
    go_ret
    exact ⟨by rw [G.out]; rfl, rfl⟩

def encRun : List (List Ins) → Nat
  | [] => 0
  | c :: cs => if encC c = 0 then encRun cs else encC c
/-- What is wrong with a rule behind one of another id. -/
def ruleCk (last : Int) (r : Rul) : Nat := if r.new ≤ last ∨ 24 < r.new ∨ r.old < 0 ∨ 24 < r.old then 1 else if r.old = 0 ∧ 0 < r.exprs.length then 4 else if 8 < r.exprs.length then 5 else encRun r.exprs

set_option maxRecDepth 20000 in
set_option maxHeartbeats 8000000 in
theorem rule_check (r : Rul) (last : Int) (q : Option Addr) (qc : Nat) (w : World) (hfit : ∀ c ∈ r.exprs, ∀ x ∈ c, x.k.fit) (hc : EP w w.heap.size q r.exprs) :
    Calls Try.prog 72 #[.agg #[.int .i64 r.new, .int .i64 r.old, .slice q r.exprs.length qc], .int .i64 last] w fun e w' => e = .returned (iV (ruleCk last r)) ∧ Keep (fun _ => False) w w' := by
  obtain ⟨rn, ro, es⟩ := r
  simp only at hfit hc
  obtain ⟨w1, hw1, hb1, hs1, hk1⟩ := box1 w #[.int .i64 rn, .int .i64 ro, .slice q es.length qc] 56
  have HK := hid hk1
  have HD : Hid (∀ wy, Keep (fun _ => False) w1 wy → EP wy wy.heap.size q es) := hid (fun wy hk => EP.mono (EP.low hc (Low.keep0 (hk1.trans hk))) (hk1.trans hk).size)
  have HX := hid hfit
  have HRC : Hid (ruleCk last ⟨rn, ro, es⟩ = if rn ≤ last ∨ 24 < rn ∨ ro < 0 ∨ 24 < ro then 1 else if ro = 0 ∧ 0 < es.length then 4 else if 8 < es.length then 5 else encRun es) := hid rfl
  clear hc hfit hk1 hs1
  go_enter Try.func72, Try.ntmps72
  go_upto_region 1 with fail
  rw [← hw1]
  clear hw1
  generalize w.heap.size = sb at *
  have s0 : w1.cell? ⟨sb, 0, none⟩ = some (.int .i64 rn) := cell_of hb1 (by rfl)
  have s1 : w1.cell? ⟨sb, 1, none⟩ = some (.int .i64 ro) := cell_of hb1 (by rfl)
  have s2 : w1.cell? ⟨sb, 2, none⟩ = some (.slice q es.length qc) := cell_of hb1 (by rfl)
  clear hb1
  by_cases h1 : rn ≤ last
  · have g1 : decide (rn ≤ last) = true := decide_eq_true h1
    have G := hid (HRC.out.trans (if_pos (.inl h1)))
    go_wp2
    go_ret
    exact ⟨by rw [G.out]; rfl, HK.out⟩
  have g1 : decide (rn ≤ last) = false := decide_eq_false h1
  by_cases h2 : 24 < rn
  · have g2 : decide (24 < rn) = true := decide_eq_true h2
    have G := hid (HRC.out.trans (if_pos (.inr (.inl h2))))
    go_wp2
    go_ret
    exact ⟨by rw [G.out]; rfl, HK.out⟩
  have g2 : decide (24 < rn) = false := decide_eq_false h2
  by_cases h3 : ro < 0
  · have g3 : decide (ro < 0) = true := decide_eq_true h3
    have G := hid (HRC.out.trans (if_pos (.inr (.inr (.inl h3)))))
    go_wp2
    go_ret
    exact ⟨by rw [G.out]; rfl, HK.out⟩
  have g3 : decide (ro < 0) = false := decide_eq_false h3
  by_cases h4 : 24 < ro
  · have g4 : decide (24 < ro) = true := decide_eq_true h4
    have G := hid (HRC.out.trans (if_pos (.inr (.inr (.inr h4)))))
    go_wp2
    go_ret
    exact ⟨by rw [G.out]; rfl, HK.out⟩
  have g4 : decide (24 < ro) = false := decide_eq_false h4
  have HR2 := hid (HRC.out.trans (if_neg (by rintro (h | h | h | h) <;> contradiction)))
  clear HRC h1 h2 h3 h4
  by_cases h5 : ro = 0 ∧ 0 < es.length
  · have g5 : (ro == 0) = true := beq_iff_eq.2 h5.1
    have g6 : decide ((0 : Int) < (es.length : Int)) = true := decide_eq_true (by omega)
    have g7 : decide (0 < es.length) = true := decide_eq_true h5.2
    have G := hid (HR2.out.trans (if_pos h5))
    go_wp2
    go_ret
    exact ⟨by rw [G.out]; rfl, HK.out⟩
  have HR3 := hid (HR2.out.trans (if_neg h5))
  clear HR2
  go_upto_region 3 with fail
  clear g1 g2 g3 g4
  go_cut [29] from 10 to 43 (fun v wx => v = .bool false ∧ w1 = wx)
  case first =>
    by_cases h6 : ro = 0
    · have g5 : (ro == 0) = true := beq_iff_eq.2 h6
      have g6 : decide ((0 : Int) < (es.length : Int)) = false := decide_eq_false (by omega)
      have g7 : decide (0 < es.length) = false := decide_eq_false (by omega)
      go_wp2
      go_meet
      case rel => exact ⟨rfl, rfl⟩
    · have g5 : (ro == 0) = false := beq_eq_false_iff_ne.2 h6
      go_wp2
      go_meet
      case rel => exact ⟨rfl, rfl⟩
  case rest =>
    obtain ⟨rfl, rfl⟩ := hcut
    clear h5
    by_cases h8 : 8 < es.length
    · have g5 : decide ((8 : Int) < (es.length : Int)) = true := decide_eq_true (by omega)
      have g6 : decide (8 < es.length) = true := decide_eq_true h8
      have G := hid (HR3.out.trans (if_pos h8))
      go_wp2
      go_ret
      exact ⟨by rw [G.out]; rfl, HK.out⟩
    have g5 : decide ((8 : Int) < (es.length : Int)) = false := decide_eq_false (by omega)
    have g6 : decide (8 < es.length) = false := decide_eq_false h8
    have G := hid (HR3.out.trans (if_neg h8))
    clear HR3
    go_wp2_with fail
    clear g5 g6 s0 s1 s2
    go_loopw [6, 7, 8, 47] (fun _ _ _ i wr => ∃ k : Nat, k ≤ es.length ∧ i = iV k ∧ encRun es = encRun (es.drop k) ∧ Keep (fun _ => False) w1 wr) (fun _ _ _ i _ => es.length + 1 - (intOf i).toNat)
    case atStart => exact ⟨0, Nat.zero_le _, rfl, rfl, Keep.refl _ _⟩
    case round =>
      obtain ⟨k, hk, rfl, heq, hkr⟩ := hrel
      have HEQ := hid heq; have HKR := hid hkr
      clear heq hkr
      by_cases hlt : k < es.length
      · obtain ⟨e, hek⟩ : ∃ e, es[k]? = some e := ⟨es[k], by simp [hlt]⟩
        have HEX := hid (show encRun es = if encC e = 0 then encRun (es.drop (k + 1)) else encC e by rw [HEQ.out, drop_next hek]; rfl)
        have HXE := hid (HX.out e (List.mem_of_getElem? hek))
        obtain ⟨eb, eo, eq, ec, rfl, hb2, e0, hec, he⟩ := EP.at (HD.out _ HKR.out) hek
        have hin : (0 : Int) ≤ (k : Int) ∧ (k : Int) < (es.length : Int) := ⟨by omega, by omega⟩
        have HE := hid he
        clear he hec hb2 hek HEQ
        go_wp2_with fail
        refine (expr_encode e eq ec _ HXE.out HE.out).mono ?_
        rintro r w2 ⟨⟨s, rfl⟩, hk2⟩
        have HK2 := hid (HKR.out.trans hk2)
        clear hk2 e0
        by_cases hz : encC e = 0
        · have G3 := hid (HEX.out.trans (if_pos hz))
          rw [hz]
          clear hz
          go_wp2
          go_roundw
          case rel => exact ⟨k + 1, by omega, by go_num, G3.out, HK2.out⟩
          case measure => simp [intOf]; omega
        · have G3 := hid (HEX.out.trans (if_neg hz))
          have G4 := hid (G.out.trans G3.out)
          clear HEX G G3
          generalize encC e = er at *
          have g1 : ((er : Int) != 0) = true := by simp only [bne, beq_eq_false_iff_ne.2 (show (er : Int) ≠ 0 by omega)]; rfl
          have g2 : (er != 0) = true := by simp only [bne, beq_eq_false_iff_ne.2 hz]; rfl
          go_wp2
          go_ret
          exact ⟨by rw [G4.out]; rfl, HK.out.trans HK2.out⟩
      · obtain rfl : k = es.length := by omega
        have G3 : Hid (ruleCk last ⟨rn, ro, es⟩ = 0) := hid (by rw [G.out, HEQ.out, List.drop_length]; rfl)
        have g0 : decide ((es.length : Int) < (es.length : Int)) = false := decide_eq_false (by omega)
        go_wp2
        go_ret
        exact ⟨by rw [G3.out]; rfl, HK.out.trans HKR.out⟩

def rulesRun (last : Int) : List Rul → Nat
  | [] => 0
  | r :: rs => if ruleCk last r = 0 then rulesRun r.new rs else ruleCk last r
/-- The error of a program of rules. -/
def progC (a b : Int) (rs : List Rul) : Nat := if versionB a = true ∧ versionB b = true then rulesRun 0 rs else 1

set_option maxRecDepth 20000 in
set_option maxHeartbeats 8000000 in
theorem prog_check (a b : Int) (rs : List Rul) (q : Option Addr) (qc : Nat) (w : World) (hl : rs.length ≤ 65536) (hfit : ∀ r ∈ rs, ∀ c ∈ r.exprs, ∀ x ∈ c, x.k.fit) (hc : UP w w.heap.size q rs) :
    Calls Try.prog 49 #[.agg #[.int .i64 a, .int .i64 b, .slice q rs.length qc]] w fun e w' => e = .returned (iV (progC a b rs)) ∧ Keep (fun _ => False) w w' := by
  obtain ⟨w1, hw1, hb1, hs1, hk1⟩ := box1 w #[.int .i64 a, .int .i64 b, .slice q rs.length qc] 51
  have HK := hid hk1
  have HD : Hid (∀ wy, Keep (fun _ => False) w1 wy → UP wy wy.heap.size q rs) := hid (fun wy hk => UP.mono (UP.low hc (Low.keep0 (hk1.trans hk))) (hk1.trans hk).size)
  have HX := hid hfit
  have HPC : Hid (progC a b rs = if versionB a = true ∧ versionB b = true then rulesRun 0 rs else 1) := hid rfl
  have HVA := hid (fun w => is_version a w)
  have HVB := hid (fun w => is_version b w)
  clear hc hfit hk1 hs1
  go_enter Try.func49, Try.ntmps49
  go_upto_region 1 with fail
  rw [← hw1]
  clear hw1
  generalize w.heap.size = sb at *
  have s0 : w1.cell? ⟨sb, 0, none⟩ = some (.int .i64 a) := cell_of hb1 (by rfl)
  have s1 : w1.cell? ⟨sb, 1, none⟩ = some (.int .i64 b) := cell_of hb1 (by rfl)
  have s2 : w1.cell? ⟨sb, 2, none⟩ = some (.slice q rs.length qc) := cell_of hb1 (by rfl)
  clear hb1
  go_wp2_with fail
  refine (HVA.out _).mono ?_
  rintro r w2 ⟨rfl, rfl⟩
  cases hva : versionB a
  · have G := hid (HPC.out.trans (if_neg (by rw [hva]; simp)))
    clear hva
    go_wp2
    go_ret
    exact ⟨by rw [G.out]; rfl, HK.out⟩
  have HA := hid hva
  clear hva
  go_wp2_with fail
  refine (HVB.out _).mono ?_
  rintro r w2 ⟨rfl, rfl⟩
  cases hvb : versionB b
  · have G := hid (HPC.out.trans (if_neg (by rw [hvb]; simp)))
    clear hvb
    go_wp2
    go_ret
    exact ⟨by rw [G.out]; rfl, HK.out⟩
  have G := hid (HPC.out.trans (if_pos ⟨HA.out, hvb⟩))
  clear hvb HPC HVA HVB HA
  go_wp2_with fail
  clear s0 s1 s2
  go_loopw [3, 5, 6, 20] (fun v _ _ i wr => ∃ (k : Nat) (last : Int), k ≤ rs.length ∧ i = iV k ∧ v = .int .i64 last ∧ rulesRun 0 rs = rulesRun last (rs.drop k) ∧ Keep (fun _ => False) w1 wr) (fun _ _ _ i _ => rs.length + 1 - (intOf i).toNat)
  case atStart => exact ⟨0, 0, Nat.zero_le _, rfl, rfl, rfl, Keep.refl _ _⟩
  case round =>
    obtain ⟨k, last, hk, rfl, rfl, heq, hkr⟩ := hrel
    have HEQ := hid heq; have HKR := hid hkr
    clear heq hkr
    by_cases hlt : k < rs.length
    · obtain ⟨u, huk⟩ : ∃ u, rs[k]? = some u := ⟨rs[k], by simp [hlt]⟩
      have HEX := hid (show rulesRun 0 rs = if ruleCk last u = 0 then rulesRun u.new (rs.drop (k + 1)) else ruleCk last u by rw [HEQ.out, drop_next huk]; rfl)
      have HXE := hid (HX.out u (List.mem_of_getElem? huk))
      obtain ⟨eb, eo, eq, ec, rfl, hb2, e0, e1, e2, hec, he⟩ := UP.at (HD.out _ HKR.out) huk
      have hin : (0 : Int) ≤ (k : Int) ∧ (k : Int) < (rs.length : Int) := ⟨by omega, by omega⟩
      obtain ⟨un, uo, us⟩ := u
      simp only at e0 e1 e2 he hec HEX HXE
      obtain ⟨w2, hw2, hb2', hs2, hk2⟩ := box1 wr #[.int .i64 un, .int .i64 uo, .slice eq us.length ec] 56
      have HK2 := hid (HKR.out.trans hk2)
      have HE := hid (EP.mono (EP.low he (Low.keep0 hk2)) hk2.size)
      clear he hec hb2 huk HEQ hs2 hk2
      go_upto_region 7 with fail
      rw [← hw2]
      clear hw2 e0 e1 e2
      generalize wr.heap.size = ub at *
      have HW : Hid (∀ wy, Keep (fun _ => False) w2 wy → wy.cell? ⟨ub, 0, none⟩ = some (.int .i64 un) ∧ wy.cell? ⟨ub, 1, none⟩ = some (.int .i64 uo) ∧ wy.cell? ⟨ub, 2, none⟩ = some (.slice eq us.length ec)) := hid (fun wy hk =>
        ⟨cell_of (hk.get hb2' id) (by rfl), cell_of (hk.get hb2' id) (by rfl), cell_of (hk.get hb2' id) (by rfl)⟩)
      clear hb2'
      obtain ⟨t0, t1, t2⟩ := HW.out _ (Keep.refl _ _)
      go_wp2_with fail
      refine (rule_check ⟨un, uo, us⟩ last eq ec _ HXE.out HE.out).mono ?_
      rintro r w3 ⟨rfl, hk3⟩
      obtain ⟨t0, t1, t2⟩ := HW.out _ hk3
      have HK3 := hid (HK2.out.trans hk3)
      clear hk3
      by_cases hz : ruleCk last ⟨un, uo, us⟩ = 0
      · have G3 := hid (HEX.out.trans (if_pos hz))
        rw [hz]
        clear hz
        go_wp2
        go_roundw
        case rel => exact ⟨k + 1, un, by omega, by go_num, rfl, G3.out, HK3.out⟩
        case measure => simp [intOf]; omega
      · have G3 := hid (HEX.out.trans (if_neg hz))
        have G4 := hid (G.out.trans G3.out)
        clear HEX G G3
        generalize ruleCk last ⟨un, uo, us⟩ = er at *
        have g1 : ((er : Int) != 0) = true := by simp only [bne, beq_eq_false_iff_ne.2 (show (er : Int) ≠ 0 by omega)]; rfl
        have g2 : (er != 0) = true := by simp only [bne, beq_eq_false_iff_ne.2 hz]; rfl
        go_wp2
        go_ret
        exact ⟨by rw [G4.out]; rfl, HK.out.trans HK3.out⟩
    · obtain rfl : k = rs.length := by omega
      have G3 : Hid (progC a b rs = 0) := hid (by rw [G.out, HEQ.out, List.drop_length]; rfl)
      have g0 : decide ((rs.length : Int) < (rs.length : Int)) = false := decide_eq_false (by omega)
      go_wp2
      go_ret
      exact ⟨by rw [G3.out]; rfl, HK.out.trans HKR.out⟩
end Go.Proofs.Ytjebgidddfamlaa

namespace Go.Proofs.Ytjebgidddfamlaa
open Go.RowKit Go.Proofs.Heap Go.Proofs.Sch Go.Proofs.Wide

def firstErr : List Nat → Nat
  | [] => 0
  | e :: r => if e = 0 then firstErr r else e
/-- The error of two schemas and a program's versions. -/
def formsC (va : Int) (ca : List Cmp) (vb : Int) (cb : List Cmp) (pa pb : Int) (rs : List Rul) : Nat :=
  if firstErr [checkC va ca, checkC vb cb, progC pa pb rs] = 0 then (if pa ≠ va ∨ pb ≠ vb ∨ pb ≤ pa then 7 else 0) else firstErr [checkC va ca, checkC vb cb, progC pa pb rs]

set_option maxRecDepth 20000 in
set_option maxHeartbeats 8000000 in
theorem chk_forms (va : Int) (ca : List Cmp) (p : Option Addr) (z : Nat) (vb : Int) (cb : List Cmp) (p2 : Option Addr) (z2 : Nat) (pa pb : Int) (rs : List Rul) (q : Option Addr) (qc : Nat) (w : World)
    (ha : Small ca) (hb : Small cb) (hl : rs.length ≤ 65536) (hfit : ∀ r ∈ rs, ∀ c ∈ r.exprs, ∀ x ∈ c, x.k.fit) (hca : CP w w.heap.size p ca) (hcb : CP w w.heap.size p2 cb) (hc : UP w w.heap.size q rs) :
    Calls Try.prog 20 #[.agg #[.int .i64 va, .slice p ca.length z], .agg #[.int .i64 vb, .slice p2 cb.length z2], .agg #[.int .i64 pa, .int .i64 pb, .slice q rs.length qc]] w
      fun e w' => e = .returned (iV (formsC va ca vb cb pa pb rs)) ∧ Keep (fun _ => False) w w' := by
  obtain ⟨w3, hw3, hb1, hb2, hb3, hs3, hk3⟩ := box3 w #[.int .i64 va, .slice p ca.length z] #[.int .i64 vb, .slice p2 cb.length z2] #[.int .i64 pa, .int .i64 pb, .slice q rs.length qc] 46 46 51
  have HK := hid hk3
  have HD : Hid (∀ wy, Keep (fun _ => False) w3 wy → CP wy wy.heap.size p ca ∧ CP wy wy.heap.size p2 cb ∧ UP wy wy.heap.size q rs) := hid (fun wy hk =>
    ⟨CP.mono (CP.low hca (Low.keep0 (hk3.trans hk))) (hk3.trans hk).size, CP.mono (CP.low hcb (Low.keep0 (hk3.trans hk))) (hk3.trans hk).size, UP.mono (UP.low hc (Low.keep0 (hk3.trans hk))) (hk3.trans hk).size⟩)
  have HFC : Hid (formsC va ca vb cb pa pb rs = if firstErr [checkC va ca, checkC vb cb, progC pa pb rs] = 0 then (if pa ≠ va ∨ pb ≠ vb ∨ pb ≤ pa then 7 else 0) else firstErr [checkC va ca, checkC vb cb, progC pa pb rs]) := hid rfl
  have HA := hid (fun (w : World) (h : CP w w.heap.size p ca) => sch_check va ca p z w ha h)
  have HB := hid (fun (w : World) (h : CP w w.heap.size p2 cb) => sch_check vb cb p2 z2 w hb h)
  have HP := hid (fun (w : World) (h : UP w w.heap.size q rs) => prog_check pa pb rs q qc w hl hfit h)
  clear hca hcb hc hk3 hs3 hfit ha hb hl
  go_enter Try.func20, Try.ntmps20
  go_upto_region 1 with fail
  rw [← hw3]
  clear hw3
  generalize w.heap.size = sb at *
  have HW : Hid (∀ wy, Keep (fun _ => False) w3 wy → (wy.cell? ⟨sb, 0, none⟩ = some (.int .i64 va) ∧ wy.cell? ⟨sb, 1, none⟩ = some (.slice p ca.length z)) ∧ (wy.cell? ⟨sb + 1, 0, none⟩ = some (.int .i64 vb) ∧ wy.cell? ⟨sb + 1, 1, none⟩ = some (.slice p2 cb.length z2)) ∧
      (wy.cell? ⟨sb + 1 + 1, 0, none⟩ = some (.int .i64 pa) ∧ wy.cell? ⟨sb + 1 + 1, 1, none⟩ = some (.int .i64 pb) ∧ wy.cell? ⟨sb + 1 + 1, 2, none⟩ = some (.slice q rs.length qc))) := hid (fun wy hk =>
    ⟨⟨cell_of (hk.get hb1 id) (by rfl), cell_of (hk.get hb1 id) (by rfl)⟩, ⟨cell_of (hk.get hb2 id) (by rfl), cell_of (hk.get hb2 id) (by rfl)⟩, cell_of (hk.get hb3 id) (by rfl), cell_of (hk.get hb3 id) (by rfl), cell_of (hk.get hb3 id) (by rfl)⟩)
  clear hb1 hb2 hb3
  have hkd := (Keep.refl (fun _ => False) w3).drew
  have HKD := hid hkd
  obtain ⟨⟨s0, s1⟩, ⟨s2, s3⟩, s4, s5, s6⟩ := HW.out _ hkd
  clear hkd
  refine Plan.wp_region_pl [(false, 0, []), (false, 2, []), (false, 4, []), (false, 8, []), (true, 1, [8, 4, 2]), (true, 3, [8, 4]), (true, 5, [8]), (true, 6, [8]), (false, 7, [])] (by kernel_rfl) (by kernel_rfl) ?_
  iterate 4 (refine Plan.pl_st rfl ?_; go_big_quiet_step (fail); refine wpQuiet_nil ?_)
  refine Plan.pl_ac rfl ?_
  go_wp2_with fail
  refine (HA.out _ (HD.out _ HKD.out).1).mono ?_
  rintro r w4 ⟨rfl, hk4⟩
  have HK4 := hid (HKD.out.trans hk4)
  clear hk4 s0 s1 s2 s3 s4 s5 s6
  obtain ⟨⟨s0, s1⟩, ⟨s2, s3⟩, s4, s5, s6⟩ := HW.out _ HK4.out
  go_wp2
  refine Plan.plQ_mk ?_ ?_
  · iterate 3 (refine Plan.chk_st rfl ?_ ?_; focus (go_big_quiet_step (fail); exact wpQuiet_nil rfl))
    exact Plan.chk_end
  refine Plan.pl_ac rfl ?_
  go_wp2_with fail
  refine (HB.out _ (HD.out _ HK4.out).2.1).mono ?_
  rintro r w5 ⟨rfl, hk5⟩
  have HK5 := hid (HK4.out.trans hk5)
  clear hk5 s0 s1 s2 s3 s4 s5 s6
  obtain ⟨⟨s0, s1⟩, ⟨s2, s3⟩, s4, s5, s6⟩ := HW.out _ HK5.out
  go_wp2
  refine Plan.plQ_mk ?_ ?_
  · iterate 2 (refine Plan.chk_st rfl ?_ ?_; focus (go_big_quiet_step (fail); exact wpQuiet_nil rfl))
    exact Plan.chk_end
  refine Plan.pl_ac rfl ?_
  go_wp2_with fail
  refine (HP.out _ (HD.out _ HK5.out).2.2).mono ?_
  rintro r w6 ⟨rfl, hk6⟩
  have HK6 := hid (HK5.out.trans hk6)
  clear hk6 s0 s1 s2 s3 s4 s5 s6
  go_wp2
  refine Plan.plQ_mk ?_ ?_
  · iterate 1 (refine Plan.chk_st rfl ?_ ?_; focus (go_big_quiet_step (fail); exact wpQuiet_nil rfl))
    exact Plan.chk_end
  obtain ⟨w7, hw7, hb7, hs7, hk7⟩ := box1 w6 #[iV (checkC va ca), iV (checkC vb cb), iV (progC pa pb rs)] 30
  refine Plan.pl_ac rfl ?_
  go_wp2
  refine Plan.plQ_mk ?_ ?_
  · iterate 1 (refine Plan.chk_st rfl ?_ ?_; focus (go_big_quiet_step (fail); exact wpQuiet_nil rfl))
    exact Plan.chk_end
  iterate 1 (refine Plan.pl_st rfl ?_; go_big_quiet_step (fail); refine wpQuiet_nil ?_)
  refine Plan.pl_end ?_
  rw [← hw7]
  have HK7 := hid (HK6.out.trans hk7)
  have HB7 := hid hb7
  clear hw7 hs7 hk7 hb7
  generalize w6.heap.size = eb at *
  generalize checkC va ca = e1 at *
  generalize checkC vb cb = e2 at *
  generalize progC pa pb rs = e3 at *
  go_wp2_with fail
  go_loopw [8, 17] (fun _ i wr => ∃ k : Nat, k ≤ 3 ∧ i = iV k ∧ firstErr [e1, e2, e3] = firstErr ([e1, e2, e3].drop k) ∧ w7 = wr) (fun _ i _ => 4 - (intOf i).toNat)
  case atStart => exact ⟨0, by omega, rfl, rfl, rfl⟩
  case round =>
    obtain ⟨k, hk, rfl, heq, rfl⟩ := hrel
    have HEQ := hid heq
    clear heq
    by_cases hlt : k < 3
    · obtain ⟨e, hek⟩ : ∃ e, [e1, e2, e3][k]? = some e := ⟨[e1, e2, e3][k]'(by simpa using hlt), by simp⟩
      have HEX := hid (show firstErr [e1, e2, e3] = if e = 0 then firstErr ([e1, e2, e3].drop (k + 1)) else e by rw [HEQ.out, drop_next hek]; rfl)
      have c0 : w7.cell? ⟨eb, k, none⟩ = some (iV e) := cell_of HB7.out (by
        match k, hek with
        | 0, h => injection h with h; subst h; rfl
        | 1, h => injection h with h; subst h; rfl
        | 2, h => injection h with h; subst h; rfl
        | _ + 3, h => simp at h)
      have hin : (0 : Int) ≤ (k : Int) ∧ (k : Int) < 3 := ⟨by omega, by omega⟩
      clear hek HEQ
      by_cases hz : e = 0
      · subst hz
        have G := hid (HEX.out.trans (if_pos rfl))
        go_wp2
        go_roundw
        case rel => exact ⟨k + 1, by omega, by go_num, G.out, by trivial⟩
        case measure => simp [intOf]; omega
      · have G := hid (HEX.out.trans (if_neg hz))
        have G2 : Hid (formsC va ca vb cb pa pb rs = e) := hid (by rw [HFC.out, G.out, if_neg hz])
        have g1 : ((e : Int) != 0) = true := by simp only [bne, beq_eq_false_iff_ne.2 (show (e : Int) ≠ 0 by omega)]; rfl
        have g2 : (e != 0) = true := by simp only [bne, beq_eq_false_iff_ne.2 hz]; rfl
        go_wp2
        go_ret
        exact ⟨by rw [G2.out]; rfl, HK.out.trans HK7.out⟩
    · obtain rfl : k = 3 := by omega
      have HZ : Hid (firstErr [e1, e2, e3] = 0) := hid (by rw [HEQ.out]; rfl)
      have HF := hid (HFC.out.trans (if_pos HZ.out))
      clear HEQ HZ HFC
      obtain ⟨⟨s0, s1⟩, ⟨s2, s3⟩, s4, s5, s6⟩ := HW.out _ HK7.out
      by_cases h1 : pa = va
      rotate_left
      · have g1 : (pa != va) = true := by simp only [bne, beq_eq_false_iff_ne.2 h1]; rfl
        have G := hid (HF.out.trans (if_pos (.inl h1)))
        go_wp2
        go_ret
        exact ⟨by rw [G.out]; rfl, HK.out.trans HK7.out⟩
      have g1 : (pa != va) = false := by simp only [bne, beq_iff_eq.2 h1]; rfl
      by_cases h2 : pb = vb
      rotate_left
      · have g2 : (pb != vb) = true := by simp only [bne, beq_eq_false_iff_ne.2 h2]; rfl
        have G := hid (HF.out.trans (if_pos (.inr (.inl h2))))
        clear h1
        go_wp2
        go_ret
        exact ⟨by rw [G.out]; rfl, HK.out.trans HK7.out⟩
      have g2 : (pb != vb) = false := by simp only [bne, beq_iff_eq.2 h2]; rfl
      by_cases h3 : pb ≤ pa
      · have g3 : decide (pb ≤ pa) = true := decide_eq_true h3
        have G := hid (HF.out.trans (if_pos (.inr (.inr h3))))
        clear h1 h2
        go_wp2
        go_ret
        exact ⟨by rw [G.out]; rfl, HK.out.trans HK7.out⟩
      have g3 : decide (pb ≤ pa) = false := decide_eq_false h3
      have G := hid (HF.out.trans (if_neg (by rintro (h | h | h) <;> contradiction)))
      clear h1 h2
      go_wp2
      go_ret
      exact ⟨by rw [G.out]; rfl, HK.out.trans HK7.out⟩
end Go.Proofs.Ytjebgidddfamlaa

namespace Go.Proofs.Ytjebgidddfamlaa
open Go.RowKit Go.Proofs.Heap Go.Proofs.Sch Go.Proofs.Wide

abbrev nV (n : Int) : Value := .int .i64 n

set_option maxRecDepth 20000 in
set_option maxHeartbeats 4000000 in
theorem eq_ints (a b : List Int) (p : Option Addr) (z : Nat) (p2 : Option Addr) (z2 : Nat) (w : World) (base : Nat) (base2 : Nat) (hl : a.length ≤ 65536) (ha : w.ownsRow base 3 1 (.slice p a.length z) a.length (a.map nV)) (hb : w.ownsRow base2 3 1 (.slice p2 b.length z2) b.length (b.map nV)) :
    Calls Try.prog 50 #[.slice p a.length z, .slice p2 b.length z2] w fun r w' => r = .returned (.bool (decide (a = b))) ∧ Keep (fun _ => False) w w' := by
  have HA := hid ha; have HB := hid hb
  clear ha hb
  go_enter Try.func50, Try.ntmps50
  by_cases h1 : a.length = b.length
  rotate_left
  · have g1 : ((a.length : Int) != (b.length : Int)) = true := by simp only [bne, beq_eq_false_iff_ne.2 (show (a.length : Int) ≠ (b.length : Int) by omega)]; rfl
    have g2 : (a.length != b.length) = true := by simp only [bne, beq_eq_false_iff_ne.2 h1]; rfl
    have G : Hid (decide (a = b) = false) := hid (decide_eq_false (fun e => h1 (by rw [e])))
    go_wp2
    go_ret
    exact ⟨by rw [G.out]; rfl, Keep.refl _ _⟩
  have HAB := hid h1
  rw [← h1] at HB ⊢
  clear h1
  go_wp2_with fail
  go_loopw [5, 13] (fun _ i wr => ∃ k : Nat, k ≤ a.length ∧ i = iV k ∧ (∀ j, j < k → a[j]? = b[j]?) ∧ Keep (fun _ => False) w wr) (fun _ i _ => a.length + 1 - (intOf i).toNat)
  case atStart => exact ⟨0, Nat.zero_le _, rfl, fun j hj => absurd hj (Nat.not_lt_zero j), Keep.refl _ _⟩
  case round =>
    obtain ⟨k, hk, rfl, hal, hkr⟩ := hrel
    have HAL := hid hal; have HKR := hid hkr
    clear hal hkr
    by_cases hlt : k < a.length
    · obtain ⟨x, hx⟩ : ∃ x, a[k]? = some x := ⟨a[k], by simp [hlt]⟩
      obtain ⟨y, hy⟩ : ∃ y, b[k]? = some y := ⟨b[k]'(by have := HAB.out; omega), by simp [show k < b.length by have := HAB.out; omega]⟩
      obtain ⟨g, rfl⟩ := owns_some HA.out (by omega)
      obtain ⟨g2, rfl⟩ := owns_some HB.out (by omega)
      have HA2 := owns_keep HA.out (fun q hq => HKR.out.block q (HA.out.lt q hq).2 (fun h => h))
      have HB2 := owns_keep HB.out (fun q hq => HKR.out.block q (HB.out.lt q hq).2 (fun h => h))
      have c0 : wr.drew.cell? ⟨g, k, none⟩ = some (nV x) := (owns_cell HA2 hlt).trans (by rw [List.getElem?_map, hx]; rfl)
      have c1 : wr.drew.cell? ⟨g2, k, none⟩ = some (nV y) := (owns_cell HB2 hlt).trans (by rw [List.getElem?_map, hy]; rfl)
      have hin : (0 : Int) ≤ (k : Int) ∧ (k : Int) < (a.length : Int) := ⟨by omega, by omega⟩
      have HXY := hid hx; have HXY2 := hid hy
      clear HA2 HB2 hx hy
      go_upto_region 6 with fail
      refine Plan.wp_region_reads (by kernel_rfl) (by kernel_rfl) ?_
      iterate 9 (go_big_quiet_step (fail))
      refine wpQuiet_nil ?_
      by_cases hxy : x = y
      · have g1 : (x != y) = false := by simp only [bne, beq_iff_eq.2 hxy]; rfl
        have HN : Hid (∀ j, j < k + 1 → a[j]? = b[j]?) := hid (fun j hj => by
          by_cases hjk : j < k
          · exact HAL.out j hjk
          · obtain rfl : j = k := by omega
            rw [HXY.out, HXY2.out, hxy])
        clear hxy
        go_wp2
        go_roundw
        case rel => exact ⟨k + 1, by omega, by go_num, HN.out, HKR.out.drew⟩
        case measure => simp [intOf]; omega
      · have g1 : (x != y) = true := by simp only [bne, beq_eq_false_iff_ne.2 hxy]; rfl
        have G : Hid (decide (a = b) = false) := hid (decide_eq_false (fun e => hxy (by
          have h1 := HXY.out; have h2 := HXY2.out
          rw [e, h2] at h1; injection h1 with h1; exact h1.symm)))
        clear hxy
        go_wp2
        go_ret
        exact ⟨by rw [G.out]; rfl, HKR.out.drew⟩
    · obtain rfl : k = a.length := by omega
      have g0 : decide ((a.length : Int) < (a.length : Int)) = false := decide_eq_false (by omega)
      have G : Hid (decide (a = b) = true) := hid (decide_eq_true (List.ext_getElem? (fun j => by
        by_cases hj : j < a.length
        · exact HAL.out j hj
        · rw [List.getElem?_eq_none (by omega), List.getElem?_eq_none (by have := HAB.out; omega)])))
      go_wp2
      go_ret
      exact ⟨by rw [G.out]; rfl, HKR.out⟩

theorem eq_ints' (a b : List Int) (n m : Nat) (p : Option Addr) (z : Nat) (p2 : Option Addr) (z2 : Nat) (w : World) (base : Nat) (base2 : Nat) (hl : n ≤ 65536) (hn : a.length = n) (hm : b.length = m) (ha : w.ownsRow base 3 1 (.slice p n z) n (a.map nV)) (hb : w.ownsRow base2 3 1 (.slice p2 m z2) m (b.map nV)) :
    Calls Try.prog 50 #[.slice p n z, .slice p2 m z2] w fun r w' => r = .returned (.bool (decide (a = b))) ∧ Keep (fun _ => False) w w' := by
  subst hn; subst hm
  exact eq_ints a b p z p2 z2 w base base2 hl ha hb

/-- Whether there is a rule for each component, of one that there is. -/
def wholeB (ca cb : List Cmp) (rs : List Rul) : Bool := rs.all (fun r => decide (r.old = 0) || ca.any (fun c => decide (c.id = r.old))) && decide (rs.map (·.new) = cb.map (·.id))

def hasB (ca : List Cmp) (r : Rul) : Bool := decide (r.old = 0) || ca.any (fun c => decide (c.id = r.old))

set_option maxRecDepth 20000 in
set_option maxHeartbeats 8000000 in
theorem is_whole (va : Int) (ca : List Cmp) (p : Option Addr) (z : Nat) (vb : Int) (cb : List Cmp) (p2 : Option Addr) (z2 : Nat) (pa pb : Int) (rs : List Rul) (q : Option Addr) (qc : Nat) (w : World)
    (ha : Small ca) (hb : Small cb) (hl : rs.length ≤ 65536) (hca : CP w w.heap.size p ca) (hcb : CP w w.heap.size p2 cb) (hc : UP w w.heap.size q rs) :
    Calls Try.prog 21 #[.agg #[.int .i64 va, .slice p ca.length z], .agg #[.int .i64 vb, .slice p2 cb.length z2], .agg #[.int .i64 pa, .int .i64 pb, .slice q rs.length qc]] w
      fun e w' => e = .returned (.bool (wholeB ca cb rs)) ∧ Keep (fun _ => False) w w' := by
  obtain ⟨i0, hi0, hz0, hz1, hz2⟩ := info_parts' info_int
  obtain ⟨w3, hw3, hb1, hb2, hb3, hs3, hk3⟩ := box3 w #[.int .i64 va, .slice p ca.length z] #[.int .i64 vb, .slice p2 cb.length z2] #[.int .i64 pa, .int .i64 pb, .slice q rs.length qc] 46 46 51
  have HK := hid hk3
  have HD : Hid (∀ wy, Keep (fun _ => False) w3 wy → CP wy wy.heap.size p ca ∧ CP wy wy.heap.size p2 cb ∧ UP wy wy.heap.size q rs) := hid (fun wy hk =>
    ⟨CP.mono (CP.low hca (Low.keep0 (hk3.trans hk))) (hk3.trans hk).size, CP.mono (CP.low hcb (Low.keep0 (hk3.trans hk))) (hk3.trans hk).size, UP.mono (UP.low hc (Low.keep0 (hk3.trans hk))) (hk3.trans hk).size⟩)
  have HA := hid ha; have HBS := hid hb
  have HWH : Hid (wholeB ca cb rs = (rs.all (hasB ca) && decide (rs.map (·.new) = cb.map (·.id)))) := hid rfl
  clear hca hcb hc hk3 hs3 ha hb
  go_enter Try.func21, Try.ntmps21
  go_upto_region 1 with fail
  rw [← hw3]
  clear hw3
  generalize w.heap.size = sb at *
  have HW : Hid (∀ wy, Keep (fun _ => False) w3 wy → (wy.cell? ⟨sb, 0, none⟩ = some (.int .i64 va) ∧ wy.cell? ⟨sb, 1, none⟩ = some (.slice p ca.length z)) ∧ (wy.cell? ⟨sb + 1, 0, none⟩ = some (.int .i64 vb) ∧ wy.cell? ⟨sb + 1, 1, none⟩ = some (.slice p2 cb.length z2)) ∧
      (wy.cell? ⟨sb + 1 + 1, 2, none⟩ = some (.slice q rs.length qc))) := hid (fun wy hk =>
    ⟨⟨cell_of (hk.get hb1 id) (by rfl), cell_of (hk.get hb1 id) (by rfl)⟩, ⟨cell_of (hk.get hb2 id) (by rfl), cell_of (hk.get hb2 id) (by rfl)⟩, cell_of (hk.get hb3 id) (by rfl)⟩)
  clear hb1 hb2 hb3
  obtain ⟨⟨s0, s1⟩, ⟨s2, s3⟩, s4⟩ := HW.out _ (Keep.refl _ _)
  go_wp2_with fail
  clear s0 s1 s2 s3 s4
  go_loopw [7, 9, 10, 11, 15] (fun v _ _ _ i wr => ∃ k : Nat, k ≤ rs.length ∧ i = iV k ∧ wr.ownsRow w3.heap.size 3 1 v k ((rs.take k).map (fun r => nV r.new)) ∧ (∀ r ∈ rs.take k, hasB ca r = true) ∧ Keep (fun _ => False) w3 wr) (fun _ _ _ _ i _ => rs.length + 1 - (intOf i).toNat)
  case atStart => exact ⟨0, Nat.zero_le _, rfl, World.ownsRow_nil _ _ _ _, by simp, Keep.refl _ _⟩
  case round =>
    obtain ⟨k, hk, rfl, how, hal, hkr⟩ := hrel
    obtain ⟨vp, vc, rfl⟩ := owns_val how
    have HO := hid how; have HAL := hid hal; have HKR := hid hkr
    clear how hal hkr
    by_cases hlt : k < rs.length
    · obtain ⟨u, huk⟩ : ∃ u, rs[k]? = some u := ⟨rs[k], by simp [hlt]⟩
      have HTK : Hid ((rs.take (k + 1)).map (fun r => nV r.new) = (rs.take k).map (fun r => nV r.new) ++ [nV u.new]) := hid (by rw [take_next huk, List.map_append]; rfl)
      have HT2 := hid (take_next huk)
      have HMU := hid (List.mem_of_getElem? huk)
      obtain ⟨eb, eo, eq, ec, rfl, hb2, e0, e1, e2, hec, he⟩ := UP.at (HD.out _ HKR.out).2.2 huk
      have hin : (0 : Int) ≤ (k : Int) ∧ (k : Int) < (rs.length : Int) := ⟨by omega, by omega⟩
      obtain ⟨un, uo, us⟩ := u
      simp only at e0 e1 e2 HTK
      obtain ⟨w2, hw2, hb2', hs2, hk2⟩ := box1 wr #[.int .i64 un, .int .i64 uo, .slice eq us.length ec] 56
      have HK2 := hid (HKR.out.trans hk2)
      have HO2 : Hid (w2.ownsRow w3.heap.size 3 1 (.slice vp k vc) k ((rs.take k).map (fun r => nV r.new))) := hid (by rw [hw2]; exact HO.out.alloc _)
      have HB2 := hid hb2'
      clear he hec hb2 huk hs2 hk2 hb2'
      generalize (rs.take k).map (fun r => nV r.new) = xs at *
      go_upto_region 5 with fail
      rw [← hw2]
      clear hw2 e0 e1 e2
      generalize wr.heap.size = ub at *
      obtain ⟨⟨s0, s1⟩, ⟨s2, s3⟩, s4⟩ := HW.out _ HK2.out
      have t1 : w2.cell? ⟨ub, 1, none⟩ = some (.int .i64 uo) := cell_of HB2.out (by rfl)
      go_wp2_with fail
      refine (find_any uo va ca p z _ HA.out (HD.out _ HK2.out).1).mono ?_
      rintro r w4 ⟨fa, fb, fq, fn, fz, rfl, hk4⟩
      obtain ⟨w5, hw5, hb5, hs5, hk5⟩ := box1 w4 #[.int .i64 fa, .string fb, .slice fq fn fz] 24
      have hk45 := hk4.trans hk5
      have HK5 := hid (HK2.out.trans hk45)
      have t0 : w5.cell? ⟨ub, 0, none⟩ = some (.int .i64 un) := cell_of (hk45.get HB2.out id) (by rfl)
      have t1' : w5.cell? ⟨ub, 1, none⟩ = some (.int .i64 uo) := cell_of (hk45.get HB2.out id) (by rfl)
      have HO5 : Hid (w5.ownsRow w3.heap.size 3 1 (.slice vp k vc) k xs) := hid (owns_keep HO2.out (fun g hg => hk45.block g (HO2.out.lt g hg).2 (fun h => h)))
      have HSZ := hid HK5.out.size
      clear hs5 hb5 hk4 hk5 hk45 s0 s1 s2 s3 s4 t1
      go_upto_region 6 with fail
      rw [← hw5]
      clear hw5
      generalize w4.heap.size = cbk at *
      cases han : ca.any (fun c => decide (c.id = uo))
      · by_cases h0 : uo = 0
        · have HH : Hid (hasB ca ⟨un, uo, us⟩ = true) := hid (by unfold hasB; rw [decide_eq_true h0]; rfl)
          have g1 : (uo != 0) = false := by simp only [bne, beq_iff_eq.2 h0]; rfl
          clear han h0
          go_wp2_with (at_builtin; go_loud (refine wpList_append_rd rfl (.tmp 33) (.tmp 36) _ rfl w3.heap.size _ i0 _ 1 8 Try.underlying91 hi0 hz0 hz1 hz2 rfl (by decide) _ k _ (by rfl) (HO5.out.alloc _) _ 1 [.int .i64 un] (by rfl) (rd_block (heap_alloc_new w5 _) (by simp) (by simp [Value.oneCell'])) (by unfold maxLen; omega) (by omega) (by have := HSZ.out; simp; omega) ?_); go_loud (intro v' w6 hown6 hgrow6 hat6 hn6; obtain ⟨vq, vd, rfl⟩ := owns_val hown6; have HO6 := hid hown6; have HK6 := hid ((HK5.out.alloc _).grown hgrow6 (fun k hk => .inl (HO5.out.lt k hk).1)); clear hown6 hgrow6 hat6 hn6))
          have HN : Hid (∀ r ∈ rs.take (k + 1), hasB ca r = true) := hid (fun r hr => by
            rw [HT2.out] at hr
            rcases List.mem_append.1 hr with h | h
            · exact HAL.out r h
            · rw [List.mem_singleton.1 h]; exact HH.out)
          go_wp2
          go_roundw
          case rel => exact ⟨k + 1, by omega, by go_num, by rw [HTK.out]; exact HO6.out, HN.out, HK6.out⟩
          case measure => simp [intOf]; omega
        · have g1 : (uo != 0) = true := by simp only [bne, beq_eq_false_iff_ne.2 h0]; rfl
          have HH : Hid (hasB ca ⟨un, uo, us⟩ = false) := hid (by unfold hasB; rw [decide_eq_false h0, han]; rfl)
          have G : Hid (wholeB ca cb rs = false) := hid (by
            rw [HWH.out]
            have : rs.all (hasB ca) = false := List.all_eq_false.2 ⟨_, HMU.out, by rw [HH.out]; simp⟩
            rw [this]; rfl)
          clear han h0
          go_wp2
          go_ret
          exact ⟨by rw [G.out]; rfl, HK.out.trans HK5.out⟩
      · have HH : Hid (hasB ca ⟨un, uo, us⟩ = true) := hid (by unfold hasB; rw [han]; simp)
        clear han
        go_wp2_with (at_builtin; go_loud (refine wpList_append_rd rfl (.tmp 33) (.tmp 36) _ rfl w3.heap.size _ i0 _ 1 8 Try.underlying91 hi0 hz0 hz1 hz2 rfl (by decide) _ k _ (by rfl) (HO5.out.alloc _) _ 1 [.int .i64 un] (by rfl) (rd_block (heap_alloc_new w5 _) (by simp) (by simp [Value.oneCell'])) (by unfold maxLen; omega) (by omega) (by have := HSZ.out; simp; omega) ?_); go_loud (intro v' w6 hown6 hgrow6 hat6 hn6; obtain ⟨vq, vd, rfl⟩ := owns_val hown6; have HO6 := hid hown6; have HK6 := hid ((HK5.out.alloc _).grown hgrow6 (fun k hk => .inl (HO5.out.lt k hk).1)); clear hown6 hgrow6 hat6 hn6))
        have HN : Hid (∀ r ∈ rs.take (k + 1), hasB ca r = true) := hid (fun r hr => by
          rw [HT2.out] at hr
          rcases List.mem_append.1 hr with h | h
          · exact HAL.out r h
          · rw [List.mem_singleton.1 h]; exact HH.out)
        go_wp2
        go_roundw
        case rel => exact ⟨k + 1, by omega, by go_num, by rw [HTK.out]; exact HO6.out, HN.out, HK6.out⟩
        case measure => simp [intOf]; omega
    · obtain rfl : k = rs.length := by omega
      have HAA : Hid (rs.all (hasB ca) = true) := hid (List.all_eq_true.2 (by have := HAL.out; rwa [List.take_length] at this))
      have HOO : Hid (wr.ownsRow w3.heap.size 3 1 (.slice vp rs.length vc) rs.length ((rs.map (·.new)).map nV)) := hid (by
        have := HO.out
        rw [List.take_length] at this
        rw [List.map_map]
        exact this)
      have HG := hid (HWH.out.trans (by rw [HAA.out, Bool.true_and]))
      have HLN : Hid ((rs.map (·.new)).length = rs.length) := hid (List.length_map ..)
      obtain ⟨⟨s0, s1⟩, ⟨s2, s3⟩, s4⟩ := HW.out _ HKR.out
      clear HAL HAA HO HWH
      go_wp2_with fail
      refine (sch_ids vb cb p2 z2 _ HBS.out.1 (HD.out _ HKR.out).2.1).mono ?_
      rintro r w4 ⟨p', c', rfl, how4, hk4⟩
      have HO4 : Hid (w4.ownsRow wr.heap.size 3 1 (.slice p' cb.length c') cb.length ((cb.map (·.id)).map nV)) := hid (by rw [List.map_map]; exact how4)
      have HOR := hid (owns_keep HOO.out (fun g hg => hk4.block g (HOO.out.lt g hg).2 (fun h => h)))
      have HK4 := hid (HKR.out.trans hk4)
      have HL2 : Hid ((cb.map (·.id)).length = cb.length) := hid (List.length_map ..)
      clear how4 hk4 s0 s1 s2 s3 s4
      go_wp2_with fail
      refine (eq_ints' _ _ _ _ vp vc p' c' _ _ _ hl HLN.out HL2.out HOR.out HO4.out).mono ?_
      rintro r w6 ⟨rfl, hk6⟩
      have HK6 := hid (HK4.out.trans hk6)
      clear hk6
      go_wp2
      go_ret
      exact ⟨by rw [HG.out]; rfl, HK.out.trans HK6.out⟩
end Go.Proofs.Ytjebgidddfamlaa

namespace Go.Proofs.Ytjebgidddfamlaa
open Go.RowKit Go.Proofs.Heap Go.Proofs.Sch Go.Proofs.Wide

def ruleRun (old : Cmp) : List Fld → List (List Ins) → Nat
  | f :: fs, c :: cs => if formC old f c = 0 then ruleRun old fs cs else formC old f c
  | _, _ => 0
/-- The error of a rule. -/
def ruleC (old new : Cmp) (r : Rul) : Nat := if r.old = 0 then 0 else if r.exprs.length = new.fs.length then ruleRun old new.fs r.exprs else 4

set_option maxRecDepth 20000 in
set_option maxHeartbeats 4000000 in
theorem chk_rule (old new : Cmp) (r : Rul) (p : Option Addr) (cap : Nat) (p2 : Option Addr) (cap2 : Nat) (q : Option Addr) (qc : Nat) (w : World) (hl : old.fs.length ≤ 4398046511104) (hl2 : new.fs.length ≤ 4398046511104)
    (hfit : ∀ c ∈ r.exprs, ∀ x ∈ c, x.k.fit) (hf : FP w w.heap.size p old.fs) (hf2 : FP w w.heap.size p2 new.fs) (hc : EP w w.heap.size q r.exprs) :
    Calls Try.prog 22 #[.agg #[.int .i64 old.id, .string old.name, .slice p old.fs.length cap], .agg #[.int .i64 new.id, .string new.name, .slice p2 new.fs.length cap2], .agg #[.int .i64 r.new, .int .i64 r.old, .slice q r.exprs.length qc]] w
      fun e w' => e = .returned (iV (ruleC old new r)) ∧ Keep (fun _ => False) w w' := by
  obtain ⟨oi, on, fs⟩ := old
  obtain ⟨ni, nn, gs⟩ := new
  obtain ⟨rn, ro, es⟩ := r
  simp only at hl hl2 hf hf2 hc hfit
  obtain ⟨w3, hw3, hb1, hb2, hb3, hs3, hk3⟩ := box3 w #[.int .i64 oi, .string on, .slice p fs.length cap] #[.int .i64 ni, .string nn, .slice p2 gs.length cap2] #[.int .i64 rn, .int .i64 ro, .slice q es.length qc] 24 24 56
  have HK := hid hk3
  have HD : Hid (∀ wy, Keep (fun _ => False) w3 wy → FP wy wy.heap.size p fs ∧ FP wy wy.heap.size p2 gs ∧ EP wy wy.heap.size q es) := hid (fun wy hk =>
    ⟨FP.mono (FP.low hf (Low.keep0 (hk3.trans hk))) (hk3.trans hk).size, FP.mono (FP.low hf2 (Low.keep0 (hk3.trans hk))) (hk3.trans hk).size, EP.mono (EP.low hc (Low.keep0 (hk3.trans hk))) (hk3.trans hk).size⟩)
  have HX := hid hfit; have HL := hid hl
  have HRC : Hid (ruleC ⟨oi, on, fs⟩ ⟨ni, nn, gs⟩ ⟨rn, ro, es⟩ = if ro = 0 then 0 else if es.length = gs.length then ruleRun ⟨oi, on, fs⟩ gs es else 4) := hid rfl
  clear hf hf2 hc hfit hk3 hs3
  go_enter Try.func22, Try.ntmps22
  go_upto_region 1 with fail
  rw [← hw3]
  clear hw3
  generalize w.heap.size = sb at *
  have HW : Hid (∀ wy, Keep (fun _ => False) w3 wy → (wy.cell? ⟨sb, 0, none⟩ = some (.int .i64 oi) ∧ wy.cell? ⟨sb, 1, none⟩ = some (.string on) ∧ wy.cell? ⟨sb, 2, none⟩ = some (.slice p fs.length cap)) ∧ wy.cell? ⟨sb + 1, 2, none⟩ = some (.slice p2 gs.length cap2) ∧ wy.cell? ⟨sb + 1 + 1, 1, none⟩ = some (.int .i64 ro) ∧ wy.cell? ⟨sb + 1 + 1, 2, none⟩ = some (.slice q es.length qc)) := hid (fun wy hk =>
    ⟨⟨cell_of (hk.get hb1 id) (by rfl), cell_of (hk.get hb1 id) (by rfl), cell_of (hk.get hb1 id) (by rfl)⟩, cell_of (hk.get hb2 id) (by rfl), cell_of (hk.get hb3 id) (by rfl), cell_of (hk.get hb3 id) (by rfl)⟩)
  clear hb1 hb2 hb3
  obtain ⟨⟨s0, s1, s2⟩, s3, s4, s5⟩ := HW.out _ (Keep.refl _ _)
  by_cases h0 : ro = 0
  · have G := hid (HRC.out.trans (if_pos h0))
    subst h0
    go_wp2
    go_ret
    exact ⟨by rw [G.out]; rfl, HK.out⟩
  have g0 : (ro == 0) = false := beq_eq_false_iff_ne.2 h0
  by_cases h1 : es.length = gs.length
  rotate_left
  · have G := hid (HRC.out.trans ((if_neg h0).trans (if_neg h1)))
    have g1 : ((es.length : Int) != (gs.length : Int)) = true := by simp only [bne, beq_eq_false_iff_ne.2 (show (es.length : Int) ≠ (gs.length : Int) by omega)]; rfl
    have g2 : (es.length != gs.length) = true := by simp only [bne, beq_eq_false_iff_ne.2 h1]; rfl
    go_wp2
    go_ret
    exact ⟨by rw [G.out]; rfl, HK.out⟩
  have G := hid (HRC.out.trans ((if_neg h0).trans (if_pos h1)))
  rw [h1] at s5 HW
  have HEL := hid h1
  clear HRC h1
  go_wp2_with fail
  clear s0 s1 s2 s3 s4 s5 g0
  go_loopw [7, 8, 9, 25] (fun _ _ _ i wr => ∃ k : Nat, k ≤ gs.length ∧ i = iV k ∧ ruleRun ⟨oi, on, fs⟩ gs es = ruleRun ⟨oi, on, fs⟩ (gs.drop k) (es.drop k) ∧ Keep (fun _ => False) w3 wr) (fun _ _ _ i _ => gs.length + 1 - (intOf i).toNat)
  case atStart => exact ⟨0, Nat.zero_le _, rfl, rfl, Keep.refl _ _⟩
  case round =>
    obtain ⟨k, hk, rfl, heq, hkr⟩ := hrel
    have HEQ := hid heq; have HKR := hid hkr
    clear heq hkr
    by_cases hlt : k < gs.length
    · obtain ⟨g, hgk⟩ : ∃ g, gs[k]? = some g := ⟨gs[k], by simp [hlt]⟩
      obtain ⟨e, hek⟩ : ∃ e, es[k]? = some e := ⟨es[k]'(by have := HEL.out; omega), by simp [show k < es.length by have := HEL.out; omega]⟩
      have HEX := hid (show ruleRun ⟨oi, on, fs⟩ gs es = if formC ⟨oi, on, fs⟩ g e = 0 then ruleRun ⟨oi, on, fs⟩ (gs.drop (k + 1)) (es.drop (k + 1)) else formC ⟨oi, on, fs⟩ g e by rw [HEQ.out, drop_next hgk, drop_next hek]; rfl)
      have HXE := hid (HX.out e (List.mem_of_getElem? hek))
      obtain ⟨b, off, rfl, hb, c0, c1, c2⟩ := FP.at (HD.out _ HKR.out).2.1 hgk
      have hin : (0 : Int) ≤ (k : Int) ∧ (k : Int) < (gs.length : Int) := ⟨by omega, by omega⟩
      clear hgk hb HEQ
      obtain ⟨gn, gk, gc⟩ := g
      simp only at c0 c1 c2
      obtain ⟨w4, hw4, hb4, hs4, hk4⟩ := box1 wr #[.string gn, .int .i64 gk, .int .i64 gc] 27
      have HK4 := hid (HKR.out.trans hk4)
      clear hk4 hs4
      go_upto_region 8 with fail
      rw [← hw4]
      clear hw4 c0 c1 c2
      generalize wr.heap.size = gb at *
      have s6 : w4.drew.cell? ⟨gb, 0, none⟩ = some (.string gn) := cell_of hb4 (by rfl)
      have s7 : w4.drew.cell? ⟨gb, 1, none⟩ = some (.int .i64 gk) := cell_of hb4 (by rfl)
      have s8 : w4.drew.cell? ⟨gb, 2, none⟩ = some (.int .i64 gc) := cell_of hb4 (by rfl)
      obtain ⟨⟨s0, s1, s2⟩, s3, s4, s5⟩ := HW.out _ HK4.out.drew
      obtain ⟨eb, eo, eq, ec, rfl, hb2, e0, hec, he⟩ := EP.at (HD.out _ HK4.out.drew).2.2 hek
      have HE := hid he
      clear he hec hb2 hek hb4 s3 s4
      refine Plan.wp_region_pl [(false, 0, []), (false, 1, []), (false, 2, []), (false, 3, []), (false, 4, []), (false, 5, []), (false, 6, []), (true, 7, []), (false, 8, [])] (by kernel_rfl) (by kernel_rfl) ?_
      iterate 7 (refine Plan.pl_st rfl ?_; go_big_quiet_step (fail); refine wpQuiet_nil ?_)
      refine Plan.pl_ac rfl ?_
      go_wp2_with fail
      refine (chk_formula ⟨oi, on, fs⟩ ⟨gn, gk, gc⟩ e p cap eq ec _ HL.out HXE.out (HD.out _ HK4.out.drew).1 HE.out).mono ?_
      rintro r w5 ⟨rfl, hk5⟩
      have HK5 := hid (HK4.out.drew.trans hk5)
      clear hk5 s0 s1 s2 s5 s6 s7 s8 e0
      go_wp2
      refine Plan.plQ_mk Plan.chk_end ?_
      iterate 1 (refine Plan.pl_st rfl ?_; go_big_quiet_step (fail); refine wpQuiet_nil ?_)
      refine Plan.pl_end ?_
      by_cases hz : formC ⟨oi, on, fs⟩ ⟨gn, gk, gc⟩ e = 0
      · have G3 := hid (HEX.out.trans (if_pos hz))
        rw [hz]
        clear hz
        go_wp2
        go_roundw
        case rel => exact ⟨k + 1, by omega, by go_num, G3.out, HK5.out⟩
        case measure => simp [intOf]; omega
      · have G3 := hid (HEX.out.trans (if_neg hz))
        have G4 := hid (G.out.trans G3.out)
        clear HEX G G3
        generalize formC ⟨oi, on, fs⟩ ⟨gn, gk, gc⟩ e = er at *
        have g1 : ((er : Int) != 0) = true := by simp only [bne, beq_eq_false_iff_ne.2 (show (er : Int) ≠ 0 by omega)]; rfl
        have g2 : (er != 0) = true := by simp only [bne, beq_eq_false_iff_ne.2 hz]; rfl
        go_wp2
        go_ret
        exact ⟨by rw [G4.out]; rfl, HK.out.trans HK5.out⟩
    · obtain rfl : k = gs.length := by omega
      have G3 : Hid (ruleC ⟨oi, on, fs⟩ ⟨ni, nn, gs⟩ ⟨rn, ro, es⟩ = 0) := hid (by rw [G.out, HEQ.out, List.drop_length]; rfl)
      have g0 : decide ((gs.length : Int) < (gs.length : Int)) = false := decide_eq_false (by omega)
      go_wp2
      go_ret
      exact ⟨by rw [G3.out]; rfl, HK.out.trans HKR.out⟩
end Go.Proofs.Ytjebgidddfamlaa

namespace Go.Proofs.Ytjebgidddfamlaa
open Go.RowKit Go.Proofs.Heap Go.Proofs.Sch

def nilC : Cmp := ⟨0, ⟨#[]⟩, []⟩
/-- The component of an id, or none. -/
def foundC (cs : List Cmp) (id : Int) : Cmp := if idxI (fun c : Cmp => decide (c.id = id)) cs < 0 then nilC else (cs[(idxI (fun c : Cmp => decide (c.id = id)) cs).toNat]?).getD nilC
theorem foundC_small {cs : List Cmp} (h : Small cs) (id : Int) : (foundC cs id).fs.length ≤ 4398046511104 := by
  unfold foundC
  split
  · simp [nilC]
  · cases e : cs[(idxI (fun c : Cmp => decide (c.id = id)) cs).toNat]? with
    | none => simp [nilC]
    | some c => exact h.2 c (List.mem_of_getElem? e)
theorem find_co (id : Int) (v : Int) (cs : List Cmp) (p : Option Addr) (cap : Nat) (w : World) (hl : Small cs) (hf : CP w w.heap.size p cs) :
    Calls Try.prog 18 #[.agg #[.int .i64 v, .slice p cs.length cap], .int .i64 id] w fun r w' => ∃ (q : Option Addr) (z : Nat), r = .returned (.tuple #[.agg #[.int .i64 (foundC cs id).id, .string (foundC cs id).name, .slice q (foundC cs id).fs.length z], .bool (cs.any (fun c => decide (c.id = id)))]) ∧
      w'.ownsRow w.heap.size 27 3 (.slice q (foundC cs id).fs.length z) (foundC cs id).fs.length ((foundC cs id).fs.flatMap fcl) ∧ Keep (fun _ => False) w w' := by
  refine (sch_find id v cs p cap w hl hf).mono ?_
  rintro r w' ⟨h | h, hk⟩
  · obtain ⟨k, c, q, z, hi, hc, _, rfl, _, h5⟩ := h
    have e : foundC cs id = c := by
      unfold foundC
      rw [hi, if_neg (by omega), Int.toNat_natCast, hc]; rfl
    rw [e]
    exact ⟨q, z, by rw [idx_any _ _ ⟨k, hi⟩], h5, hk⟩
  · obtain ⟨hi, rfl⟩ := h
    have e : foundC cs id = nilC := by
      unfold foundC
      rw [hi]; rfl
    rw [e]
    exact ⟨none, 0, by rw [idx_any_no _ _ hi]; rfl, World.ownsRow_nil _ _ _ _, hk⟩
theorem find_c (id : Int) (v : Int) (cs : List Cmp) (p : Option Addr) (cap : Nat) (w : World) (hl : Small cs) (hf : CP w w.heap.size p cs) :
    Calls Try.prog 18 #[.agg #[.int .i64 v, .slice p cs.length cap], .int .i64 id] w fun r w' => ∃ (q : Option Addr) (z : Nat), r = .returned (.tuple #[.agg #[.int .i64 (foundC cs id).id, .string (foundC cs id).name, .slice q (foundC cs id).fs.length z], .bool (cs.any (fun c => decide (c.id = id)))]) ∧ FP w' w'.heap.size q (foundC cs id).fs ∧ Keep (fun _ => False) w w' :=
  (find_co id v cs p cap w hl hf).mono fun _ _ ⟨q, z, h1, h2, h3⟩ => ⟨q, z, h1, fp_own rfl h2, h3⟩
end Go.Proofs.Ytjebgidddfamlaa
