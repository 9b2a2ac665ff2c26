/- What is proved: what is wrong with a rule, and with a program of rules. -/
import Derived.Test.YtlhdofkgcbmnnaaGreatDoorMPlain
import Derived.Test.YtlhdofkgcbmnnaaGreatDoorMExDecLaw
import Derived.Test.YtlhdofkgcbmnnaaGreatDoorMRdr
namespace Go.Proofs.YtlhdofkgcbmnnaaGreatDoor
open Go.RowKit Go.Proofs.Heap Go.Proofs.Sch Go.Proofs.Wide

def versionB (n : Int) : Bool := decide (1 ≤ n ∧ n ≤ 1073741824)
theorem is_version (n : Int) (w : World) : Calls Tryz.prog 28 #[.int .i64 n] w fun r w' => r = .returned (.bool (versionB n)) ∧ w = w' := by
  by_cases h1 : 1 ≤ n
  · have g1 : decide (1 ≤ n) = true := decide_eq_true h1
    by_cases h2 : n ≤ 1073741824
    · have g2 : decide (n ≤ 1073741824) = true := decide_eq_true h2
      have G : Hid (versionB n = true) := hid (decide_eq_true ⟨h1, h2⟩)
      go_enter Tryz.func28, Tryz.ntmps28
      go_wp2
      go_ret
      exact ⟨by rw [G.out]; rfl, rfl⟩
    · have g2 : decide (n ≤ 1073741824) = false := decide_eq_false h2
      have G : Hid (versionB n = false) := hid (decide_eq_false (fun h => h2 h.2))
      go_enter Tryz.func28, Tryz.ntmps28
      go_wp2
      go_ret
      exact ⟨by rw [G.out]; rfl, rfl⟩
  · have g1 : decide (1 ≤ n) = false := decide_eq_false h1
    have G : Hid (versionB n = false) := hid (decide_eq_false (fun h => h1 h.1))
    go_enter Tryz.func28, Tryz.ntmps28
    go_wp2
    go_ret
    exact ⟨by rw [G.out]; rfl, rfl⟩

def encRun : List (List Ins) → Nat
  | [] => 0
  | c :: cs => if encC c = 0 then encRun cs else encC c
/-- What is wrong with a rule behind one of another id. -/
def ruleCk (last : Int) (r : Rul) : Nat := if r.new ≤ last ∨ 24 < r.new ∨ r.old < 0 ∨ 24 < r.old then 1 else if r.old = 0 ∧ 0 < r.exprs.length then 4 else if 8 < r.exprs.length then 5 else encRun r.exprs

set_option maxRecDepth 20000 in
set_option maxHeartbeats 8000000 in
theorem rule_check (r : Rul) (last : Int) (q : Option Addr) (qc : Nat) (w : World) (hfit : ∀ c ∈ r.exprs, ∀ x ∈ c, x.k.fit) (hc : EP w w.heap.size q r.exprs) :
    Calls Tryz.prog 29 #[.agg #[.int .i64 r.new, .int .i64 r.old, .slice q r.exprs.length qc], .int .i64 last] w fun e w' => e = .returned (iV (ruleCk last r)) ∧ Keep (fun _ => False) w w' := by
  obtain ⟨rn, ro, es⟩ := r
  simp only at hfit hc
  obtain ⟨w1, hw1, hb1, hs1, hk1⟩ := box1 w #[.int .i64 rn, .int .i64 ro, .slice q es.length qc] 46
  have HK := hid hk1
  have HD : Hid (∀ wy, Keep (fun _ => False) w1 wy → EP wy wy.heap.size q es) := hid (fun wy hk => EP.mono (EP.low hc (Low.keep0 (hk1.trans hk))) (hk1.trans hk).size)
  have HX := hid hfit
  have HRC : Hid (ruleCk last ⟨rn, ro, es⟩ = if rn ≤ last ∨ 24 < rn ∨ ro < 0 ∨ 24 < ro then 1 else if ro = 0 ∧ 0 < es.length then 4 else if 8 < es.length then 5 else encRun es) := hid rfl
  clear hc hfit hk1 hs1
  go_enter Tryz.func29, Tryz.ntmps29
  go_upto_region 1 with fail
  rw [← hw1]
  clear hw1
  generalize w.heap.size = sb at *
  have s0 : w1.cell? ⟨sb, 0, none⟩ = some (.int .i64 rn) := cell_of hb1 (by rfl)
  have s1 : w1.cell? ⟨sb, 1, none⟩ = some (.int .i64 ro) := cell_of hb1 (by rfl)
  have s2 : w1.cell? ⟨sb, 2, none⟩ = some (.slice q es.length qc) := cell_of hb1 (by rfl)
  clear hb1
  by_cases h1 : rn ≤ last
  · have g1 : decide (rn ≤ last) = true := decide_eq_true h1
    have G := hid (HRC.out.trans (if_pos (.inl h1)))
    go_wp2
    go_ret
    exact ⟨by rw [G.out]; rfl, HK.out⟩
  have g1 : decide (rn ≤ last) = false := decide_eq_false h1
  by_cases h2 : 24 < rn
  · have g2 : decide (24 < rn) = true := decide_eq_true h2
    have G := hid (HRC.out.trans (if_pos (.inr (.inl h2))))
    go_wp2
    go_ret
    exact ⟨by rw [G.out]; rfl, HK.out⟩
  have g2 : decide (24 < rn) = false := decide_eq_false h2
  by_cases h3 : ro < 0
  · have g3 : decide (ro < 0) = true := decide_eq_true h3
    have G := hid (HRC.out.trans (if_pos (.inr (.inr (.inl h3)))))
    go_wp2
    go_ret
    exact ⟨by rw [G.out]; rfl, HK.out⟩
  have g3 : decide (ro < 0) = false := decide_eq_false h3
  by_cases h4 : 24 < ro
  · have g4 : decide (24 < ro) = true := decide_eq_true h4
    have G := hid (HRC.out.trans (if_pos (.inr (.inr (.inr h4)))))
    go_wp2
    go_ret
    exact ⟨by rw [G.out]; rfl, HK.out⟩
  have g4 : decide (24 < ro) = false := decide_eq_false h4
  have HR2 := hid (HRC.out.trans (if_neg (by rintro (h | h | h | h) <;> contradiction)))
  clear HRC h1 h2 h3 h4
  by_cases h5 : ro = 0 ∧ 0 < es.length
  · have g5 : (ro == 0) = true := beq_iff_eq.2 h5.1
    have g6 : decide ((0 : Int) < (es.length : Int)) = true := decide_eq_true (by omega)
    have g7 : decide (0 < es.length) = true := decide_eq_true h5.2
    have G := hid (HR2.out.trans (if_pos h5))
    go_wp2
    go_ret
    exact ⟨by rw [G.out]; rfl, HK.out⟩
  have HR3 := hid (HR2.out.trans (if_neg h5))
  clear HR2
  go_upto_region 3 with fail
  clear g1 g2 g3 g4
  go_cut [29] from 10 to 43 (fun v wx => v = .bool false ∧ w1 = wx)
  case first =>
    by_cases h6 : ro = 0
    · have g5 : (ro == 0) = true := beq_iff_eq.2 h6
      have g6 : decide ((0 : Int) < (es.length : Int)) = false := decide_eq_false (by omega)
      have g7 : decide (0 < es.length) = false := decide_eq_false (by omega)
      go_wp2
      go_meet
      case rel => exact ⟨rfl, rfl⟩
    · have g5 : (ro == 0) = false := beq_eq_false_iff_ne.2 h6
      go_wp2
      go_meet
      case rel => exact ⟨rfl, rfl⟩
  case rest =>
    obtain ⟨rfl, rfl⟩ := hcut
    clear h5
    by_cases h8 : 8 < es.length
    · have g5 : decide ((8 : Int) < (es.length : Int)) = true := decide_eq_true (by omega)
      have g6 : decide (8 < es.length) = true := decide_eq_true h8
      have G := hid (HR3.out.trans (if_pos h8))
      go_wp2
      go_ret
      exact ⟨by rw [G.out]; rfl, HK.out⟩
    have g5 : decide ((8 : Int) < (es.length : Int)) = false := decide_eq_false (by omega)
    have g6 : decide (8 < es.length) = false := decide_eq_false h8
    have G := hid (HR3.out.trans (if_neg h8))
    clear HR3
    go_wp2_with fail
    clear g5 g6 s0 s1 s2
    go_loopw [6, 7, 8, 47] (fun _ _ _ i wr => ∃ k : Nat, k ≤ es.length ∧ i = iV k ∧ encRun es = encRun (es.drop k) ∧ Keep (fun _ => False) w1 wr) (fun _ _ _ i _ => es.length + 1 - (intOf i).toNat)
    case atStart => exact ⟨0, Nat.zero_le _, rfl, rfl, Keep.refl _ _⟩
    case round =>
      obtain ⟨k, hk, rfl, heq, hkr⟩ := hrel
      have HEQ := hid heq; have HKR := hid hkr
      clear heq hkr
      by_cases hlt : k < es.length
      · obtain ⟨e, hek⟩ : ∃ e, es[k]? = some e := ⟨es[k], by simp [hlt]⟩
        have HEX := hid (show encRun es = if encC e = 0 then encRun (es.drop (k + 1)) else encC e by rw [HEQ.out, drop_next hek]; rfl)
        have HXE := hid (HX.out e (List.mem_of_getElem? hek))
        obtain ⟨eb, eo, eq, ec, rfl, hb2, e0, hec, he⟩ := EP.at (HD.out _ HKR.out) hek
        have hin : (0 : Int) ≤ (k : Int) ∧ (k : Int) < (es.length : Int) := ⟨by omega, by omega⟩
        have HE := hid he
        clear he hec hb2 hek HEQ
        go_wp2_with fail
        refine (expr_encode e eq ec _ HXE.out HE.out).mono ?_
        rintro r w2 ⟨⟨s, rfl⟩, hk2⟩
        have HK2 := hid (HKR.out.trans hk2)
        clear hk2 e0
        by_cases hz : encC e = 0
        · have G3 := hid (HEX.out.trans (if_pos hz))
          rw [hz]
          clear hz
          go_wp2
          go_roundw
          case rel => exact ⟨k + 1, by omega, by go_num, G3.out, HK2.out⟩
          case measure => simp [intOf]; omega
        · have G3 := hid (HEX.out.trans (if_neg hz))
          have G4 := hid (G.out.trans G3.out)
          clear HEX G G3
          generalize encC e = er at *
          have g1 : ((er : Int) != 0) = true := by simp only [bne, beq_eq_false_iff_ne.2 (show (er : Int) ≠ 0 by omega)]; rfl
          have g2 : (er != 0) = true := by simp only [bne, beq_eq_false_iff_ne.2 hz]; rfl
          go_wp2
          go_ret
          exact ⟨by rw [G4.out]; rfl, HK.out.trans HK2.out⟩
      · obtain rfl : k = es.length := by omega
        have G3 : Hid (ruleCk last ⟨rn, ro, es⟩ = 0) := hid (by rw [G.out, HEQ.out, List.drop_length]; rfl)
        have g0 : decide ((es.length : Int) < (es.length : Int)) = false := decide_eq_false (by omega)
        go_wp2
        go_ret
        exact ⟨by rw [G3.out]; rfl, HK.out.trans HKR.out⟩

def rulesRun (last : Int) : List Rul → Nat
  | [] => 0
  | r :: rs => if ruleCk last r = 0 then rulesRun r.new rs else ruleCk last r
/-- The error of a program of rules. -/
def progC (a b : Int) (rs : List Rul) : Nat := if versionB a = true ∧ versionB b = true then rulesRun 0 rs else 1

set_option maxRecDepth 20000 in
set_option maxHeartbeats 8000000 in
theorem prog_check (a b : Int) (rs : List Rul) (q : Option Addr) (qc : Nat) (w : World) (hl : rs.length ≤ 65536) (hfit : ∀ r ∈ rs, ∀ c ∈ r.exprs, ∀ x ∈ c, x.k.fit) (hc : UP w w.heap.size q rs) :
    Calls Tryz.prog 12 #[.agg #[.int .i64 a, .int .i64 b, .slice q rs.length qc]] w fun e w' => e = .returned (iV (progC a b rs)) ∧ Keep (fun _ => False) w w' := by
  obtain ⟨w1, hw1, hb1, hs1, hk1⟩ := box1 w #[.int .i64 a, .int .i64 b, .slice q rs.length qc] 24
  have HK := hid hk1
  have HD : Hid (∀ wy, Keep (fun _ => False) w1 wy → UP wy wy.heap.size q rs) := hid (fun wy hk => UP.mono (UP.low hc (Low.keep0 (hk1.trans hk))) (hk1.trans hk).size)
  have HX := hid hfit
  have HPC : Hid (progC a b rs = if versionB a = true ∧ versionB b = true then rulesRun 0 rs else 1) := hid rfl
  have HVA := hid (fun w => is_version a w)
  have HVB := hid (fun w => is_version b w)
  clear hc hfit hk1 hs1
  go_enter Tryz.func12, Tryz.ntmps12
  go_upto_region 1 with fail
  rw [← hw1]
  clear hw1
  generalize w.heap.size = sb at *
  have s0 : w1.cell? ⟨sb, 0, none⟩ = some (.int .i64 a) := cell_of hb1 (by rfl)
  have s1 : w1.cell? ⟨sb, 1, none⟩ = some (.int .i64 b) := cell_of hb1 (by rfl)
  have s2 : w1.cell? ⟨sb, 2, none⟩ = some (.slice q rs.length qc) := cell_of hb1 (by rfl)
  clear hb1
  go_wp2_with fail
  refine (HVA.out _).mono ?_
  rintro r w2 ⟨rfl, rfl⟩
  cases hva : versionB a
  · have G := hid (HPC.out.trans (if_neg (by rw [hva]; simp)))
    clear hva
    go_wp2
    go_ret
    exact ⟨by rw [G.out]; rfl, HK.out⟩
  have HA := hid hva
  clear hva
  go_wp2_with fail
  refine (HVB.out _).mono ?_
  rintro r w2 ⟨rfl, rfl⟩
  cases hvb : versionB b
  · have G := hid (HPC.out.trans (if_neg (by rw [hvb]; simp)))
    clear hvb
    go_wp2
    go_ret
    exact ⟨by rw [G.out]; rfl, HK.out⟩
  have G := hid (HPC.out.trans (if_pos ⟨HA.out, hvb⟩))
  clear hvb HPC HVA HVB HA
  go_wp2_with fail
  clear s0 s1 s2
  go_loopw [3, 5, 6, 20] (fun v _ _ i wr => ∃ (k : Nat) (last : Int), k ≤ rs.length ∧ i = iV k ∧ v = .int .i64 last ∧ rulesRun 0 rs = rulesRun last (rs.drop k) ∧ Keep (fun _ => False) w1 wr) (fun _ _ _ i _ => rs.length + 1 - (intOf i).toNat)
  case atStart => exact ⟨0, 0, Nat.zero_le _, rfl, rfl, rfl, Keep.refl _ _⟩
  case round =>
    obtain ⟨k, last, hk, rfl, rfl, heq, hkr⟩ := hrel
    have HEQ := hid heq; have HKR := hid hkr
    clear heq hkr
    by_cases hlt : k < rs.length
    · obtain ⟨u, huk⟩ : ∃ u, rs[k]? = some u := ⟨rs[k], by simp [hlt]⟩
      have HEX := hid (show rulesRun 0 rs = if ruleCk last u = 0 then rulesRun u.new (rs.drop (k + 1)) else ruleCk last u by rw [HEQ.out, drop_next huk]; rfl)
      have HXE := hid (HX.out u (List.mem_of_getElem? huk))
      obtain ⟨eb, eo, eq, ec, rfl, hb2, e0, e1, e2, hec, he⟩ := UP.at (HD.out _ HKR.out) huk
      have hin : (0 : Int) ≤ (k : Int) ∧ (k : Int) < (rs.length : Int) := ⟨by omega, by omega⟩
      obtain ⟨un, uo, us⟩ := u
      simp only at e0 e1 e2 he hec HEX HXE
      obtain ⟨w2, hw2, hb2', hs2, hk2⟩ := box1 wr #[.int .i64 un, .int .i64 uo, .slice eq us.length ec] 46
      have HK2 := hid (HKR.out.trans hk2)
      have HE := hid (EP.mono (EP.low he (Low.keep0 hk2)) hk2.size)
      clear he hec hb2 huk HEQ hs2 hk2
      go_upto_region 7 with fail
      rw [← hw2]
      clear hw2 e0 e1 e2
      generalize wr.heap.size = ub at *
      have HW : Hid (∀ wy, Keep (fun _ => False) w2 wy → wy.cell? ⟨ub, 0, none⟩ = some (.int .i64 un) ∧ wy.cell? ⟨ub, 1, none⟩ = some (.int .i64 uo) ∧ wy.cell? ⟨ub, 2, none⟩ = some (.slice eq us.length ec)) := hid (fun wy hk =>
        ⟨cell_of (hk.get hb2' id) (by rfl), cell_of (hk.get hb2' id) (by rfl), cell_of (hk.get hb2' id) (by rfl)⟩)
      clear hb2'
      obtain ⟨t0, t1, t2⟩ := HW.out _ (Keep.refl _ _)
      go_wp2_with fail
      refine (rule_check ⟨un, uo, us⟩ last eq ec _ HXE.out HE.out).mono ?_
      rintro r w3 ⟨rfl, hk3⟩
      obtain ⟨t0, t1, t2⟩ := HW.out _ hk3
      have HK3 := hid (HK2.out.trans hk3)
      clear hk3
      by_cases hz : ruleCk last ⟨un, uo, us⟩ = 0
      · have G3 := hid (HEX.out.trans (if_pos hz))
        rw [hz]
        clear hz
        go_wp2
        go_roundw
        case rel => exact ⟨k + 1, un, by omega, by go_num, rfl, G3.out, HK3.out⟩
        case measure => simp [intOf]; omega
      · have G3 := hid (HEX.out.trans (if_neg hz))
        have G4 := hid (G.out.trans G3.out)
        clear HEX G G3
        generalize ruleCk last ⟨un, uo, us⟩ = er at *
        have g1 : ((er : Int) != 0) = true := by simp only [bne, beq_eq_false_iff_ne.2 (show (er : Int) ≠ 0 by omega)]; rfl
        have g2 : (er != 0) = true := by simp only [bne, beq_eq_false_iff_ne.2 hz]; rfl
        go_wp2
        go_ret
        exact ⟨by rw [G4.out]; rfl, HK.out.trans HK3.out⟩
    · obtain rfl : k = rs.length := by omega
      have G3 : Hid (progC a b rs = 0) := hid (by rw [G.out, HEQ.out, List.drop_length]; rfl)
      have g0 : decide ((rs.length : Int) < (rs.length : Int)) = false := decide_eq_false (by omega)
      go_wp2
      go_ret
      exact ⟨by rw [G3.out]; rfl, HK.out.trans HKR.out⟩
end Go.Proofs.YtlhdofkgcbmnnaaGreatDoor

namespace Go.Proofs.YtlhdofkgcbmnnaaGreatDoor
open Go.RowKit Go.Proofs.Heap Go.Proofs.Sch Go.Proofs.Wide

/-- A part of bytes: its length in four bytes, and itself. -/
def partL (t : ByteArray) : List UInt8 := leL 4 t.size ++ t.data.toList
def ptOk (s : ByteArray) : Prop := 4 ≤ s.size ∧ firstN s 4 ≤ 4096 ∧ 4 + firstN s 4 ≤ s.size
instance (s : ByteArray) : Decidable (ptOk s) := inferInstanceAs (Decidable (_ ∧ _ ∧ _))
def rdPt (st : St) : ByteArray × St := if st.2 = false ∧ ptOk st.1 then (st.1.extract 4 (4 + firstN st.1 4), (st.1.extract (4 + firstN st.1 4) st.1.size, false)) else (⟨#[]⟩, (st.1, true))
theorem rdPt_size (st : St) : (rdPt st).2.1.size ≤ st.1.size := by
  unfold rdPt
  split
  · rw [ByteArray.size_extract]; omega
  · exact Nat.le_refl _
theorem rdPt_len (st : St) : (rdPt st).1.size ≤ 4096 := by
  unfold rdPt
  split
  next h => rw [ByteArray.size_extract]; have := h.2.2.1; omega
  · exact Nat.zero_le _
theorem rdPt_bad {st : St} (h : st.2 = true) : (rdPt st).2 = st := by
  unfold rdPt
  rw [if_neg (by rw [h]; simp)]
  exact Prod.ext rfl h.symm
theorem rdPt_app {t : ByteArray} (h : t.size ≤ 4096) (r : List UInt8) : rdPt (bsB (partL t ++ r), false) = (t, (bsB r, false)) := by
  obtain ⟨l, rfl⟩ : ∃ l, t = bsB l := ⟨_, (bs_of t).symm⟩
  rw [bs_size] at h
  have hL : partL (bsB l) ++ r = leL 4 l.length ++ (l ++ r) := by unfold partL; rw [bs_list, bs_size, List.append_assoc]
  rw [hL]
  have h1 : firstN (bsB (leL 4 l.length ++ (l ++ r))) 4 = l.length := by
    unfold firstN
    rw [bs_list, List.take_append_of_le_length (by rw [leL_len]; omega), List.take_of_length_le (by rw [leL_len]; omega), leN_leL, Nat.mod_eq_of_lt (by omega)]
  have h2 : (leL 4 l.length ++ (l ++ r)).drop (4 + l.length) = r := by
    rw [← List.drop_drop, List.drop_left' (leL_len _ _), List.drop_left' rfl]
  have h3 : ((leL 4 l.length ++ (l ++ r)).drop 4).take (4 + l.length - 4) = l := by
    rw [List.drop_left' (leL_len _ _), List.take_left' (by omega)]
  unfold rdPt
  rw [if_pos ⟨rfl, by
    unfold ptOk
    simp only [h1, bs_size, List.length_append, leL_len]
    omega⟩]
  simp only [h1, bs_drop, h2]
  rw [bs_ext, h3]
theorem rdPt_un {st : St} {t s' : ByteArray} (h : rdPt st = (t, (s', false))) : st.2 = false ∧ st.1.data.toList = partL t ++ s'.data.toList ∧ t.size ≤ 4096 := by
  obtain ⟨s, bad⟩ := st
  obtain ⟨l, rfl⟩ : ∃ l, s = bsB l := ⟨_, (bs_of s).symm⟩
  unfold rdPt at h
  split at h
  next hc =>
    obtain ⟨h0, h1, hm, hle⟩ := hc
    simp only [bs_drop, Prod.mk.injEq, and_true] at h
    obtain ⟨rfl, rfl⟩ := h
    rw [bs_ext]
    simp only [bs_size] at h1 hle hm
    have h3 := leL_leN (l.take 4)
    rw [List.length_take, Nat.min_eq_left h1] at h3
    unfold firstN at hle hm ⊢
    rw [bs_list] at hle hm ⊢
    refine ⟨h0, ?_, ?_⟩
    · unfold partL
      rw [bs_size, List.length_take, List.length_drop, Nat.min_eq_left (by omega), Nat.add_sub_cancel_left, h3, List.append_assoc, ← List.drop_drop, bs_list, bs_list, List.take_append_drop, List.take_append_drop]
    · rw [bs_size, List.length_take]; omega
  · simp only [Prod.mk.injEq, Bool.true_eq_false, and_false] at h

/-- A rule's bytes. -/
def ruleL (r : Rul) : List UInt8 := leL 1 (u64N r.new) ++ leL 1 (u64N r.old) ++ leL 1 r.exprs.length ++ r.exprs.flatMap (fun c => partL (expS c))
/-- A program's bytes. -/
def progL (a b : Int) (rs : List Rul) : List UInt8 := leL 1 77 ++ leL 4 (u64N a) ++ leL 4 (u64N b) ++ leL 1 rs.length ++ rs.flatMap ruleL
def progS (a b : Int) (rs : List Rul) : ByteArray := if progC a b rs = 0 then bsB (progL a b rs) else ⟨#[]⟩
/-- A rule read: it, and whether its formulas are some. -/
def rdR (st : St) : (Rul × Bool) × St :=
  ((⟨(rdN 1 st).1, (rdN 1 (rdN 1 st).2).1, ((rdRow rdPt (rdN 1 (rdN 1 (rdN 1 st).2).2).1 (rdN 1 (rdN 1 (rdN 1 st).2).2).2).1).map decX⟩, ((rdRow rdPt (rdN 1 (rdN 1 (rdN 1 st).2).2).1 (rdN 1 (rdN 1 (rdN 1 st).2).2).2).1).all (fun s => decide (decEX s = 0))),
    (rdRow rdPt (rdN 1 (rdN 1 (rdN 1 st).2).2).1 (rdN 1 (rdN 1 (rdN 1 st).2).2).2).2)
theorem rdR_eq {st s1 s2 s3 : St} {a b n : Nat} (h1 : rdN 1 st = (a, s1)) (h2 : rdN 1 s1 = (b, s2)) (h3 : rdN 1 s2 = (n, s3)) :
    rdR st = ((⟨a, b, (rdRow rdPt n s3).1.map decX⟩, (rdRow rdPt n s3).1.all (fun s => decide (decEX s = 0))), (rdRow rdPt n s3).2) := by
  unfold rdR
  rw [h1]
  simp only [h2, h3]
/-- The parts of bytes: mark, versions, rules with whether they are good, what is left. -/
structure PR12 where
  m : Nat
  a : Nat
  b : Nat
  rs : List (Rul × Bool)
  st : St
def partsR (s : ByteArray) : PR12 :=
  ⟨(rdN 1 (s, false)).1, (rdN 4 (rdN 1 (s, false)).2).1, (rdN 4 (rdN 4 (rdN 1 (s, false)).2).2).1,
    (rdRow rdR (rdN 1 (rdN 4 (rdN 4 (rdN 1 (s, false)).2).2).2).1 (rdN 1 (rdN 4 (rdN 4 (rdN 1 (s, false)).2).2).2).2).1,
    (rdRow rdR (rdN 1 (rdN 4 (rdN 4 (rdN 1 (s, false)).2).2).2).1 (rdN 1 (rdN 4 (rdN 4 (rdN 1 (s, false)).2).2).2).2).2⟩
theorem partsR_eq {s : ByteArray} {s1 s2 s3 s4 : St} {m a b n : Nat} (h1 : rdN 1 (s, false) = (m, s1)) (h2 : rdN 4 s1 = (a, s2)) (h3 : rdN 4 s2 = (b, s3)) (h4 : rdN 1 s3 = (n, s4)) :
    partsR s = ⟨m, a, b, (rdRow rdR n s4).1, (rdRow rdR n s4).2⟩ := by
  unfold partsR
  rw [h1]
  simp only [h2, h3, h4]
def rulesR (s : ByteArray) : List Rul := (partsR s).rs.map (·.1)
def goodR (s : ByteArray) : Bool := decide ((partsR s).m = 77) && (partsR s).rs.all (·.2) && (!(partsR s).st.2 && decide ((partsR s).st.1.size = 0)) && decide (progC (partsR s).a (partsR s).b (rulesR s) = 0)
def decA (s : ByteArray) : Int := if goodR s = true then ((partsR s).a : Int) else 0
def decB (s : ByteArray) : Int := if goodR s = true then ((partsR s).b : Int) else 0
def decRs (s : ByteArray) : List Rul := if goodR s = true then rulesR s else []
def decER (s : ByteArray) : Nat := if goodR s = true then 0 else 4

/-- A rule whose numbers are numbers. -/
abbrev FitR (r : Rul) : Prop := ∀ c ∈ r.exprs, ∀ x ∈ c, x.k.fit
theorem encRun_all : ∀ {es : List (List Ins)}, encRun es = 0 → ∀ c ∈ es, encC c = 0
  | [], _, c, hc => by cases hc
  | e :: es, h, c, hc => by
    unfold encRun at h
    split at h
    next h1 =>
      rcases List.mem_cons.1 hc with rfl | hc
      · exact h1
      · exact encRun_all h c hc
    next h1 => exact absurd h h1
theorem ruleCk_ok {last : Int} {r : Rul} (h : ruleCk last r = 0) : last < r.new ∧ r.new ≤ 24 ∧ 0 ≤ r.old ∧ r.old ≤ 24 ∧ r.exprs.length ≤ 8 ∧ ∀ c ∈ r.exprs, encC c = 0 := by
  unfold ruleCk at h
  split at h
  · omega
  next h1 =>
  split at h
  · omega
  next h2 =>
  split at h
  · omega
  next h3 =>
  simp only [not_or, Int.not_le, Int.not_lt] at h1
  exact ⟨h1.1, h1.2.1, h1.2.2.1, h1.2.2.2, by omega, encRun_all h⟩
theorem rulesRun_ok : ∀ {rs : List Rul} {last : Int}, 0 ≤ last → last ≤ 24 → rulesRun last rs = 0 → (rs.length : Int) ≤ 24 - last ∧ ∀ r ∈ rs, 1 ≤ r.new ∧ r.new ≤ 24 ∧ 0 ≤ r.old ∧ r.old ≤ 24 ∧ r.exprs.length ≤ 8 ∧ ∀ c ∈ r.exprs, encC c = 0
  | [], last, h0, h1, _ => ⟨by simpa using h1, fun r hr => by cases hr⟩
  | r :: rs, last, h0, h1, h => by
    unfold rulesRun at h
    split at h
    next hk =>
      have hk2 := ruleCk_ok hk
      obtain ⟨ih1, ih2⟩ := rulesRun_ok (last := r.new) (by omega) (by omega) h
      refine ⟨by rw [List.length_cons]; omega, fun x hx => ?_⟩
      rcases List.mem_cons.1 hx with rfl | hx
      · exact ⟨by omega, hk2.2⟩
      · exact ih2 x hx
    next hk => exact absurd h hk
theorem prog_ok {a b : Int} {rs : List Rul} (h : progC a b rs = 0) : (1 ≤ a ∧ a ≤ 1073741824) ∧ (1 ≤ b ∧ b ≤ 1073741824) ∧ rs.length ≤ 24 ∧ ∀ r ∈ rs, 1 ≤ r.new ∧ r.new ≤ 24 ∧ 0 ≤ r.old ∧ r.old ≤ 24 ∧ r.exprs.length ≤ 8 ∧ ∀ c ∈ r.exprs, encC c = 0 := by
  unfold progC at h
  split at h
  next hv =>
    obtain ⟨h1, h2⟩ := rulesRun_ok (by omega) (by omega) h
    exact ⟨of_decide_eq_true hv.1, of_decide_eq_true hv.2, by omega, h2⟩
  · omega
theorem expS_small {c : List Ins} (h : encC c = 0) : (expS c).size ≤ 1153 := by
  have e : expS c = bsB (expL c) := if_pos h
  have hl := (exprC_all (encC_all h).1).2.1
  rw [e, bs_size]
  unfold expL
  rw [List.length_append, leL_len]
  have h1 := flat_le insL 18 (l := c) (fun g _ => insL_len g)
  have : c.length * 18 ≤ 64 * 18 := Nat.mul_le_mul_right _ hl
  omega
theorem ruleL_len {r : Rul} (h : r.exprs.length ≤ 8) (he : ∀ c ∈ r.exprs, encC c = 0) : (ruleL r).length ≤ 9300 := by
  unfold ruleL
  simp only [List.length_append, leL_len]
  have h1 := flat_le (fun c => partL (expS c)) 1157 (l := r.exprs) (fun c hc => by
    have := expS_small (he c hc)
    show (leL 4 _ ++ _).length ≤ _
    rw [List.length_append, leL_len, Array.length_toList]
    have e : (expS c).data.size = (expS c).size := rfl
    omega)
  have : r.exprs.length * 1157 ≤ 8 * 1157 := Nat.mul_le_mul_right _ h
  omega
theorem rdR_app {r : Rul} (h1 : 1 ≤ r.new ∧ r.new ≤ 24) (h2 : 0 ≤ r.old ∧ r.old ≤ 24) (h3 : r.exprs.length ≤ 8) (h4 : ∀ c ∈ r.exprs, encC c = 0) (hf : FitR r) (t : List UInt8) : rdR (bsB (ruleL r ++ t), false) = ((r, true), (bsB t, false)) := by
  obtain ⟨nw, od, es⟩ := r
  simp only at h1 h2 h3 h4 hf
  obtain ⟨n, rfl⟩ := Int.eq_ofNat_of_zero_le (a := nw) (by omega)
  obtain ⟨o, rfl⟩ := Int.eq_ofNat_of_zero_le (a := od) (by omega)
  have e : ruleL ⟨(n : Int), (o : Int), es⟩ ++ t = leL 1 n ++ (leL 1 o ++ (leL 1 es.length ++ (es.flatMap (fun c => partL (expS c)) ++ t))) := by
    unfold ruleL
    simp only [u64N_nat (show n < 18446744073709551616 by omega), u64N_nat (show o < 18446744073709551616 by omega), List.append_assoc]
  rw [e, rdR_eq (rdN_app (by omega) _) (rdN_app (by omega) _) (rdN_app (by omega) _)]
  have hr := rdRow_app rdPt partL (es.map expS) (fun x hx r => by
    obtain ⟨c, hc, rfl⟩ := List.mem_map.1 hx
    have := expS_small (h4 c hc)
    exact rdPt_app (by omega) r) t
  rw [List.length_map, List.flatMap_map] at hr
  rw [hr]
  refine Prod.ext (Prod.ext ?_ ?_) rfl
  · show (⟨(n : Int), (o : Int), (es.map expS).map decX⟩ : Rul) = _
    congr 1
    rw [List.map_map]
    conv => rhs; rw [← List.map_id es]
    refine List.map_congr_left fun c hc => ?_
    exact (decX_enc (h4 c hc) (hf c hc)).1
  · show (es.map expS).all (fun s => decide (decEX s = 0)) = true
    rw [List.all_map, List.all_eq_true]
    intro c hc
    exact decide_eq_true (decX_enc (h4 c hc) (hf c hc)).2
theorem expS_decX {s : ByteArray} (h : decEX s = 0) : expS (decX s) = s ∧ encC (decX s) = 0 := by
  have hg : goodX s = true := by
    unfold decEX at h
    split at h
    · assumption
    · omega
  obtain ⟨h1, h2⟩ := enc_codeR hg
  have e : decX s = codeR s := if_pos hg
  rw [e]
  refine ⟨?_, h2⟩
  have e2 : expS (codeR s) = bsB (expL (codeR s)) := if_pos h2
  rw [e2, ← h1, bs_of]
theorem rdR_un {st : St} {r : Rul} {g : Bool} {s' : ByteArray} (h : rdR st = ((r, g), (s', false))) (hg : g = true) : st.2 = false ∧ st.1.data.toList = ruleL r ++ s'.data.toList := by
  subst hg
  obtain ⟨⟨a, s1⟩, e1⟩ : ∃ x, rdN 1 st = x := ⟨_, rfl⟩
  obtain ⟨⟨b, s2⟩, e2⟩ : ∃ x, rdN 1 s1 = x := ⟨_, rfl⟩
  obtain ⟨⟨n, s3⟩, e3⟩ : ∃ x, rdN 1 s2 = x := ⟨_, rfl⟩
  obtain ⟨⟨ps, s4⟩, e4⟩ : ∃ x, rdRow rdPt n s3 = x := ⟨_, rfl⟩
  have l1 := rdN_lt 1 st; rw [e1] at l1
  have l2 := rdN_lt 1 s1; rw [e2] at l2
  simp only at l1 l2
  rw [rdR_eq e1 e2 e3, e4] at h
  simp only [Prod.mk.injEq] at h
  obtain ⟨⟨rfl, hall⟩, rfl⟩ := h
  have h4 := rdRow_un rdPt partL (fun st x s' hh => ⟨(rdPt_un hh).1, (rdPt_un hh).2.1⟩) n s3 ps s' e4
  have h3 := rdN_un (e3.trans (Prod.ext rfl (Prod.ext rfl h4.1)))
  have h2 := rdN_un (e2.trans (Prod.ext rfl (Prod.ext rfl h3.1)))
  have h1 := rdN_un (e1.trans (Prod.ext rfl (Prod.ext rfl h2.1)))
  refine ⟨h1.1, ?_⟩
  have e5 : (ps.map decX).flatMap (fun c => partL (expS c)) = ps.flatMap partL := by
    rw [List.flatMap_map]
    have : ∀ l : List ByteArray, (∀ x ∈ l, decEX x = 0) → l.flatMap (fun a => partL (expS (decX a))) = l.flatMap partL := by
      intro l
      induction l with
      | nil => intro _; rfl
      | cons x l ih =>
        intro hl
        rw [List.flatMap_cons, List.flatMap_cons, ih (fun y hy => hl y (by simp [hy])), (expS_decX (hl x (by simp))).1]
    exact this ps (fun x hx => of_decide_eq_true (List.all_eq_true.1 hall x hx))
  unfold ruleL
  simp only [e5, List.length_map, h4.2.1, u64N_nat (show a < 18446744073709551616 by omega), u64N_nat (show b < 18446744073709551616 by omega)]
  rw [h1.2, h2.2, h3.2, h4.2.2]
  simp only [List.append_assoc]
theorem rdRowR_un : ∀ (n : Nat) (st : St) (l : List (Rul × Bool)) (s' : ByteArray), rdRow rdR n st = (l, (s', false)) → l.all (·.2) = true → st.2 = false ∧ l.length = n ∧ st.1.data.toList = (l.map (·.1)).flatMap ruleL ++ s'.data.toList
  | 0, st, l, s', h, _ => by
    rw [rdRow] at h
    obtain ⟨rfl, rfl⟩ := Prod.mk.injEq .. ▸ h
    exact ⟨rfl, rfl, by simp⟩
  | n + 1, st, l, s', h, hg => by
    cases hb : st.2
    · rw [rdRow_next rdR n hb] at h
      obtain ⟨⟨⟨x, g⟩, st2⟩, ex⟩ : ∃ x, rdR st = x := ⟨_, rfl⟩
      obtain ⟨⟨r, st3⟩, er⟩ : ∃ x, rdRow rdR n st2 = x := ⟨_, rfl⟩
      rw [ex] at h
      simp only [er, Prod.mk.injEq] at h
      obtain ⟨rfl, rfl⟩ := h
      rw [List.all_cons, Bool.and_eq_true] at hg
      obtain ⟨h1, h2, h3⟩ := rdRowR_un n st2 r s' er hg.2
      have h4 := rdR_un (ex.trans (Prod.ext rfl (Prod.ext rfl h1))) hg.1
      refine ⟨rfl, by rw [List.length_cons, h2], ?_⟩
      rw [h4.2, h3, List.map_cons, List.flatMap_cons, List.append_assoc]
    · rw [rdRow_bad rdR (n + 1) hb, Prod.mk.injEq] at h
      rw [h.2] at hb
      cases hb
theorem partsR_app {a b : Int} {rs : List Rul} (h : progC a b rs = 0) (hf : ∀ r ∈ rs, FitR r) (t : List UInt8) : partsR (bsB (progL a b rs ++ t)) = ⟨77, a.toNat, b.toNat, rs.map (fun r => (r, true)), (bsB t, false)⟩ := by
  obtain ⟨h1, h2, h3, h4⟩ := prog_ok h
  obtain ⟨an, rfl⟩ := Int.eq_ofNat_of_zero_le (a := a) (by omega)
  obtain ⟨bn, rfl⟩ := Int.eq_ofNat_of_zero_le (a := b) (by omega)
  have e : progL (an : Int) (bn : Int) rs ++ t = leL 1 77 ++ (leL 4 an ++ (leL 4 bn ++ (leL 1 rs.length ++ (rs.flatMap ruleL ++ t)))) := by
    unfold progL
    simp only [u64N_nat (show an < 18446744073709551616 by omega), u64N_nat (show bn < 18446744073709551616 by omega), List.append_assoc]
  rw [e, partsR_eq (rdN_app (by decide) _) (rdN_app (by omega) _) (rdN_app (by omega) _) (rdN_app (by omega) _)]
  have hr := rdRow_app rdR (fun x : Rul × Bool => ruleL x.1) (rs.map (fun r => (r, true))) (fun x hx r => by
    obtain ⟨y, hy, rfl⟩ := List.mem_map.1 hx
    obtain ⟨k1, k2, k3, k4, k5, k6⟩ := h4 y hy
    exact rdR_app ⟨k1, k2⟩ ⟨k3, k4⟩ k5 k6 (hf y hy) r) t
  rw [List.length_map, List.flatMap_map] at hr
  rw [hr]
  rfl
theorem map_pairR (rs : List Rul) : (rs.map (fun r => (r, true))).map (·.1) = rs := by rw [List.map_map]; exact List.map_id' rs
theorem goodR_enc {a b : Int} {rs : List Rul} (h : progC a b rs = 0) (hf : ∀ r ∈ rs, FitR r) : goodR (bsB (progL a b rs)) = true ∧ partsR (bsB (progL a b rs)) = ⟨77, a.toNat, b.toNat, rs.map (fun r => (r, true)), (bsB [], false)⟩ := by
  have e := partsR_app h hf []
  rw [List.append_nil] at e
  refine ⟨?_, e⟩
  obtain ⟨h1, h2, _, _⟩ := prog_ok h
  unfold goodR rulesR
  rw [e]
  simp only [map_pairR]
  rw [show ((a.toNat : Nat) : Int) = a by omega, show ((b.toNat : Nat) : Int) = b by omega, h]
  simp [bs_size]
/-- What was encoded is decoded as it was. -/
theorem decR_enc {a b : Int} {rs : List Rul} (h : progC a b rs = 0) (hf : ∀ r ∈ rs, FitR r) : decA (progS a b rs) = a ∧ decB (progS a b rs) = b ∧ decRs (progS a b rs) = rs ∧ decER (progS a b rs) = 0 := by
  obtain ⟨g1, g2⟩ := goodR_enc h hf
  obtain ⟨h1, h2, _, _⟩ := prog_ok h
  have e : progS a b rs = bsB (progL a b rs) := if_pos h
  rw [e]
  unfold decA decB decRs decER rulesR
  simp only [if_pos g1, g2, map_pairR]
  refine ⟨by omega, by omega, trivial, trivial⟩
theorem goodR_more {a b : Int} {rs : List Rul} (h : progC a b rs = 0) (hf : ∀ r ∈ rs, FitR r) (m : UInt8) : goodR (bsB (progL a b rs ++ [m])) = false := by
  unfold goodR
  rw [partsR_app h hf [m]]
  simp [bs_size]
theorem enc_goodR {s : ByteArray} (h : goodR s = true) : s.data.toList = progL (partsR s).a (partsR s).b (rulesR s) ∧ progC (partsR s).a (partsR s).b (rulesR s) = 0 := by
  unfold goodR at h
  simp only [Bool.and_eq_true, decide_eq_true_eq, Bool.not_eq_true'] at h
  obtain ⟨⟨⟨hm, hg⟩, hb, hz⟩, hc⟩ := h
  refine ⟨?_, hc⟩
  obtain ⟨⟨m, s1⟩, e1⟩ : ∃ x, rdN 1 (s, false) = x := ⟨_, rfl⟩
  obtain ⟨⟨a, s2⟩, e2⟩ : ∃ x, rdN 4 s1 = x := ⟨_, rfl⟩
  obtain ⟨⟨b, s3⟩, e3⟩ : ∃ x, rdN 4 s2 = x := ⟨_, rfl⟩
  obtain ⟨⟨n, s4⟩, e4⟩ : ∃ x, rdN 1 s3 = x := ⟨_, rfl⟩
  obtain ⟨⟨l, s5⟩, e5⟩ : ∃ x, rdRow rdR n s4 = x := ⟨_, rfl⟩
  have HP : partsR s = ⟨m, a, b, l, s5⟩ := by rw [partsR_eq e1 e2 e3 e4, e5]
  have l2 := rdN_lt 4 s1; rw [e2] at l2
  have l3 := rdN_lt 4 s2; rw [e3] at l3
  simp only at l2 l3
  unfold rulesR
  rw [HP] at hg hb hz hm ⊢
  simp only at hb hz hg hm ⊢
  have k5 := rdRowR_un n s4 l s5.1 (e5.trans (Prod.ext rfl (Prod.ext rfl hb))) hg
  have k4 := rdN_un (e4.trans (Prod.ext rfl (Prod.ext rfl k5.1)))
  have k3 := rdN_un (e3.trans (Prod.ext rfl (Prod.ext rfl k4.1)))
  have k2 := rdN_un (e2.trans (Prod.ext rfl (Prod.ext rfl k3.1)))
  have k1 := rdN_un (e1.trans (Prod.ext rfl (Prod.ext rfl k2.1)))
  have h0 : s5.1.data.toList = [] := List.eq_nil_of_length_eq_zero (by rw [Array.length_toList]; exact hz)
  have e : s.data.toList = _ := k1.2
  unfold progL
  rw [e, k2.2, k3.2, k4.2, k5.2.2, h0, List.append_nil, List.length_map, k5.2.1, u64N_nat (show a < 18446744073709551616 by omega), u64N_nat (show b < 18446744073709551616 by omega), hm]
  simp only [List.append_assoc]
theorem rdR_fit (st : St) : FitR (rdR st).1.1 := by
  intro c hc
  have hc' : c ∈ ((rdRow rdPt (rdN 1 (rdN 1 (rdN 1 st).2).2).1 (rdN 1 (rdN 1 (rdN 1 st).2).2).2).1).map decX := hc
  obtain ⟨s, _, rfl⟩ := List.mem_map.1 hc'
  exact decX_fit s
theorem rdRowR_fit : ∀ (n : Nat) (st : St), ∀ x ∈ (rdRow rdR n st).1, FitR x.1
  | 0, _ => fun x hx => by simp [rdRow] at hx
  | n + 1, st => fun x hx => by
    rw [rdRow] at hx
    split at hx
    · simp at hx
    · rcases List.mem_cons.1 hx with rfl | hx
      · exact rdR_fit st
      · exact rdRowR_fit n _ x hx
theorem rulesR_fit (s : ByteArray) : ∀ r ∈ rulesR s, FitR r := by
  intro r hr
  obtain ⟨y, hy, rfl⟩ := List.mem_map.1 hr
  exact rdRowR_fit _ _ y hy
theorem decRs_fit (s : ByteArray) : ∀ r ∈ decRs s, FitR r := by
  unfold decRs
  split
  · exact rulesR_fit s
  · intro x hx; simp at hx
theorem rulesR_len (s : ByteArray) : (rulesR s).length < 256 := by
  unfold rulesR partsR
  rw [List.length_map]
  exact Nat.lt_of_le_of_lt (rdRow_len rdR _ _) (rdN_lt 1 _)
theorem goodR_less {a b : Int} {rs : List Rul} (h : progC a b rs = 0) (hf : ∀ r ∈ rs, FitR r) {s : ByteArray} {t : UInt8} (hs : progL a b rs = s.data.toList ++ [t]) : goodR s = false := by
  cases hg : goodR s
  · rfl
  · exfalso
    obtain ⟨g1, g2⟩ := enc_goodR hg
    have h1 := partsR_app g2 (rulesR_fit s) [t]
    rw [← g1, ← hs] at h1
    have h2 := (goodR_enc h hf).2
    rw [h1] at h2
    have h3 := congrArg (fun p : PR12 => p.st.1.size) h2
    simp [bs_size] at h3
/-- What was decoded is encoded as the same bytes. -/
theorem progS_dec {s : ByteArray} (h : decER s = 0) : progC (decA s) (decB s) (decRs s) = 0 ∧ progS (decA s) (decB s) (decRs s) = s := by
  have hg : goodR s = true := by
    unfold decER at h
    split at h
    · assumption
    · omega
  obtain ⟨h1, h2⟩ := enc_goodR hg
  have e1 : decA s = ((partsR s).a : Int) := if_pos hg
  have e2 : decB s = ((partsR s).b : Int) := if_pos hg
  have e3 : decRs s = rulesR s := if_pos hg
  rw [e1, e2, e3]
  refine ⟨h2, ?_⟩
  have e4 : progS ((partsR s).a : Int) ((partsR s).b : Int) (rulesR s) = bsB (progL (partsR s).a (partsR s).b (rulesR s)) := if_pos h2
  rw [e4, ← h1, bs_of]
theorem progL_pos (a b : Int) (rs : List Rul) : 10 ≤ (progL a b rs).length := by
  unfold progL
  simp only [List.length_append, leL_len]
  omega
theorem decR_more {a b : Int} {rs : List Rul} (h : progC a b rs = 0) (hf : ∀ r ∈ rs, FitR r) (m : UInt8) : decER (progS a b rs ++ ⟨#[m]⟩) = 4 := by
  have e : progS a b rs ++ ⟨#[m]⟩ = bsB (progL a b rs ++ [m]) := by
    unfold progS; rw [if_pos h]
    apply ByteArray.ext
    apply Array.toList_inj.1
    rw [ByteArray.data_append, Array.toList_append]; rfl
  rw [e]
  unfold decER; rw [goodR_more h hf m]; rfl
theorem decR_less {a b : Int} {rs : List Rul} (h : progC a b rs = 0) (hf : ∀ r ∈ rs, FitR r) : decER ((progS a b rs).extract 0 ((progS a b rs).size - 1)) = 4 := by
  have e0 : progS a b rs = bsB (progL a b rs) := if_pos h
  have hp := progL_pos a b rs
  have e : (progS a b rs).extract 0 ((progS a b rs).size - 1) = bsB ((progL a b rs).take ((progL a b rs).length - 1)) := by
    rw [e0, bs_ext, bs_size, List.drop_zero, Nat.sub_zero]
  rw [e]
  unfold decER
  have hd : (progL a b rs).drop ((progL a b rs).length - 1) = [(progL a b rs)[(progL a b rs).length - 1]] := by
    rw [List.drop_eq_getElem_cons (by omega), List.drop_of_length_le (by omega)]
  rw [goodR_less h hf (t := (progL a b rs)[(progL a b rs).length - 1]) (by rw [bs_list, ← hd, List.take_append_drop])]
  rfl
/-- Unlike programs have unlike bytes. -/
theorem progS_inj {a b a2 b2 : Int} {rs rs2 : List Rul} (h : progC a b rs = 0) (hf : ∀ r ∈ rs, FitR r) (h2 : progC a2 b2 rs2 = 0) (hf2 : ∀ r ∈ rs2, FitR r) (he : progS a b rs = progS a2 b2 rs2) : a = a2 ∧ b = b2 ∧ rs = rs2 := by
  obtain ⟨e1, e2, e3, _⟩ := decR_enc h hf
  obtain ⟨f1, f2, f3, _⟩ := decR_enc h2 hf2
  rw [he] at e1 e2 e3
  exact ⟨e1.symm.trans f1, e2.symm.trans f2, e3.symm.trans f3⟩
end Go.Proofs.YtlhdofkgcbmnnaaGreatDoor

namespace Go.Proofs.YtlhdofkgcbmnnaaGreatDoor
open Go.RowKit Go.Proofs.Heap Go.Proofs.Sch

theorem partL_len (s : ByteArray) : (partL s).length = s.size + 4 := by unfold partL; rw [List.length_append, leL_len, Array.length_toList]; exact Nat.add_comm _ _
set_option maxRecDepth 20000 in
set_option maxHeartbeats 8000000 in
theorem wr_part (s : ByteArray) (base q : Nat) (sv : Value) (l : List UInt8) (w : World) (hll : l.length + s.size + 4 ≤ 1000000) (hW : WrS w base q sv l) :
    Calls Tryz.prog 52 #[.pointer (some ⟨q, 0, none⟩), .string s] w fun r w' => ∃ sv', r = .returned (.bool true) ∧ WrN w w' base q sv sv' (l ++ partL s) := by
  have HQ := hid (lt_of_heap hW.block)
  have HC1 := hid (oct_num4 s.size (by omega) base q sv l w (by omega) hW)
  have HC2 := hid (fun (sv1 : Value) (w1 : World) (h1 : WrS w1 base q sv1 (l ++ leL 4 s.size)) => wr_raw s base q sv1 _ w1 (by rw [List.length_append, leL_len]; omega) h1)
  have hwr : IntKind.u64.wrap (s.size : Int) = (s.size : Int) := by simp [IntKind.wrap, IntKind.bits, IntKind.signed]; omega
  clear hW hll
  go_enter Tryz.func52, Tryz.ntmps52
  go_wp2_with fail
  refine HC1.out.mono ?_
  rintro r w1 ⟨sv1, rfl, hn⟩
  have H1 := hid hn
  clear hn
  go_wp2_with fail
  refine (HC2.out sv1 w1 H1.out.st).mono ?_
  rintro r w2 ⟨sv2, rfl, hn⟩
  have H2 := hid hn
  clear hn
  go_wp2
  go_ret
  refine ⟨sv2, rfl, ?_⟩
  have h := H1.out.trans H2.out HQ.out
  rw [List.append_assoc] at h
  exact h

set_option maxRecDepth 20000 in
set_option maxHeartbeats 8000000 in
theorem rd_part_yes (b : Nat) (s : ByteArray) (w : World) (hs : s.size ≤ 9223372036854775807) (hok : ptOk s) (h : RdS w b s false) :
    Calls Tryz.prog 56 #[.pointer (some ⟨b, 0, none⟩), .int .i64 4096] w fun r w' => Took w w' b r (s.extract 4 (4 + firstN s 4)) (s.extract (4 + firstN s 4) s.size) false := by
  have HOK := hid hok
  have hlt : firstN s 4 ≤ 4096 := hok.2.1
  have HS := hid (rd_see b s false 4 (by unfold WideOk; omega) w h)
  rw [if_pos ⟨rfl, hok.1⟩] at HS
  have hwr : wrap64 (firstN s 4 : Int) = (firstN s 4 : Int) := by unfold wrap64; omega
  have HT := hid (rd_take_yes b s 4 (firstN s 4) w hs hok.2.2 h)
  clear hok h
  generalize firstN s 4 = n at *
  have g1 : decide ((n : Int) ≤ 4096) = true := decide_eq_true (by omega)
  have g2 : decide (n ≤ 4096) = true := decide_eq_true hlt
  go_enter Tryz.func56, Tryz.ntmps56
  go_wp2_with fail
  refine HS.out.mono ?_
  rintro r w1 ⟨rfl, rfl⟩
  go_wp2_with fail
  refine HT.out.mono ?_
  rintro r w2 ⟨rfl, h1, h2⟩
  have H1 := hid h1; have H2 := hid h2
  clear h1 h2
  go_wp2
  go_ret
  exact ⟨rfl, H1.out, H2.out⟩
set_option maxRecDepth 20000 in
set_option maxHeartbeats 8000000 in
theorem rd_part_no (b : Nat) (s : ByteArray) (bad : Bool) (w : World) (hs : s.size ≤ 9223372036854775807) (hno : bad = true ∨ ¬ ptOk s) (h : RdS w b s bad) :
    Calls Tryz.prog 56 #[.pointer (some ⟨b, 0, none⟩), .int .i64 4096] w fun r w' => Took w w' b r ⟨#[]⟩ s true := by
  have HS := hid (rd_see b s bad 4 (by unfold WideOk; omega) w h)
  have hlt : firstN s 4 < 4294967296 := firstN_lt s 4
  have hwr : wrap64 (firstN s 4 : Int) = (firstN s 4 : Int) := by unfold wrap64; omega
  have hwr0 : wrap64 (0 : Int) = (0 : Int) := by unfold wrap64; omega
  cases bad
  · have hno2 : ¬ ptOk s := by rcases hno with h | h; cases h; exact h
    by_cases h1 : 4 ≤ s.size
    · rw [if_pos ⟨rfl, h1⟩] at HS
      by_cases h3 : firstN s 4 ≤ 4096
      · have HT := hid (rd_take_no b s 4 (firstN s 4) true w (by omega) hs (.inr (.inr (by unfold ptOk at hno2; omega))) h)
        clear hno hno2 h h1
        generalize firstN s 4 = n at *
        have g1 : decide ((n : Int) ≤ 4096) = true := decide_eq_true (by omega)
        have g2 : decide (n ≤ 4096) = true := decide_eq_true h3
        go_enter Tryz.func56, Tryz.ntmps56
        go_wp2_with fail
        refine HS.out.mono ?_
        rintro r w1 ⟨rfl, rfl⟩
        go_wp2_with fail
        refine HT.out.mono ?_
        rintro r w2 ⟨rfl, h1, h2⟩
        have H1 := hid h1; have H2 := hid h2
        clear h1 h2
        go_wp2
        go_ret
        exact ⟨rfl, H1.out, H2.out⟩
      · have HT := hid (rd_take_no b s 4 (firstN s 4) false w (by omega) hs (.inl rfl) h)
        clear hno hno2 h h1
        generalize firstN s 4 = n at *
        have g1 : decide ((n : Int) ≤ 4096) = false := decide_eq_false (by omega)
        have g2 : decide (n ≤ 4096) = false := decide_eq_false h3
        go_enter Tryz.func56, Tryz.ntmps56
        go_wp2_with fail
        refine HS.out.mono ?_
        rintro r w1 ⟨rfl, rfl⟩
        go_wp2_with fail
        refine HT.out.mono ?_
        rintro r w2 ⟨rfl, h1, h2⟩
        have H1 := hid h1; have H2 := hid h2
        clear h1 h2
        go_wp2
        go_ret
        exact ⟨rfl, H1.out, H2.out⟩
    · rw [if_neg (by rintro ⟨_, h⟩; exact h1 h)] at HS
      have HT := hid (rd_take_no b s 4 0 false w (by omega) hs (.inl rfl) h)
      clear hno hno2 h h1
      go_enter Tryz.func56, Tryz.ntmps56
      go_wp2_with fail
      refine HS.out.mono ?_
      rintro r w1 ⟨rfl, rfl⟩
      go_wp2_with fail
      refine HT.out.mono ?_
      rintro r w2 ⟨rfl, h1, h2⟩
      have H1 := hid h1; have H2 := hid h2
      clear h1 h2
      go_wp2
      go_ret
      exact ⟨rfl, H1.out, H2.out⟩
  · rw [if_neg (by rintro ⟨h, _⟩; cases h)] at HS
    have HT := hid (rd_take_bad b s 4 0 false w h)
    clear hno h
    go_enter Tryz.func56, Tryz.ntmps56
    go_wp2_with fail
    refine HS.out.mono ?_
    rintro r w1 ⟨rfl, rfl⟩
    go_wp2_with fail
    refine HT.out.mono ?_
    rintro r w2 ⟨rfl, h1, h2⟩
    have H1 := hid h1; have H2 := hid h2
    clear h1 h2
    go_wp2
    go_ret
    exact ⟨rfl, H1.out, H2.out⟩
theorem rd_pt (b : Nat) (st : St) (w : World) (hs : st.1.size ≤ 9223372036854775807) (h : RdS w b st.1 st.2) :
    Calls Tryz.prog 56 #[.pointer (some ⟨b, 0, none⟩), .int .i64 4096] w fun r w' => r = .returned (.string (rdPt st).1) ∧ RdS w' b (rdPt st).2.1 (rdPt st).2.2 ∧ Keep (fun g => g = b) w w' := by
  obtain ⟨s, bad⟩ := st
  by_cases hc : bad = false ∧ ptOk s
  · have e : rdPt (s, bad) = (s.extract 4 (4 + firstN s 4), (s.extract (4 + firstN s 4) s.size, false)) := if_pos hc
    rw [e]
    obtain ⟨rfl, hle⟩ := hc
    exact (rd_part_yes b s w hs hle h).mono (fun r w' h => ⟨h.res, h.st, h.keep⟩)
  · have e : rdPt (s, bad) = (⟨#[]⟩, (s, true)) := if_neg hc
    rw [e]
    refine (rd_part_no b s bad w hs ?_ h).mono (fun r w' h => ⟨h.res, h.st, h.keep⟩)
    cases bad
    · right; intro h2; exact hc ⟨rfl, h2⟩
    · exact .inl rfl
end Go.Proofs.YtlhdofkgcbmnnaaGreatDoor

namespace Go.Proofs.YtlhdofkgcbmnnaaGreatDoor
open Go.RowKit Go.Proofs.Heap Go.Proofs.Sch Go.Proofs.Wide

/-- A rule that is more than is asked. -/
def greatU (r : Rul) : Bool := decide (12 < r.exprs.length) || r.exprs.any (fun c => decide (80 < c.length))
/-- More than is asked. -/
def greatP (rs : List Rul) : Bool := decide (30 < rs.length) || rs.any greatU
theorem greatU_no {r : Rul} (h : greatU r = false) : r.exprs.length ≤ 12 ∧ ∀ c ∈ r.exprs, c.length ≤ 80 := by
  unfold greatU at h
  simp only [Bool.or_eq_false_iff, decide_eq_false_iff_not, List.any_eq_false, decide_eq_true_eq] at h
  exact ⟨by omega, fun t ht => by have := h.2 t ht; omega⟩
theorem greatP_no {rs : List Rul} (h : greatP rs = false) : rs.length ≤ 30 ∧ ∀ r ∈ rs, r.exprs.length ≤ 12 ∧ ∀ c ∈ r.exprs, c.length ≤ 80 := by
  unfold greatP at h
  simp only [Bool.or_eq_false_iff, decide_eq_false_iff_not, List.any_eq_false] at h
  exact ⟨by omega, fun r hr => greatU_no (by have := h.2 r hr; simpa using this)⟩
/-- A program. -/
abbrev PgV (a b : Int) (q : Option Addr) (n qc : Nat) : Value := .agg #[.int .i64 a, .int .i64 b, .slice q n qc]

set_option maxRecDepth 20000 in
set_option maxHeartbeats 8000000 in
theorem ru_great (a b : Int) (rs : List Rul) (q : Option Addr) (qc : Nat) (w : World) (hq : UP w w.heap.size q rs) :
    Calls Tryz.prog 8 #[PgV a b q rs.length qc] w fun r w' => r = .returned (.bool (greatP rs)) ∧ Keep (fun _ => False) w w' := by
  obtain ⟨w1, hw1, hb1, hs1, hk1⟩ := box1 w #[.int .i64 a, .int .i64 b, .slice q rs.length qc] 24
  have HK := hid hk1
  have HD : Hid (∀ wy, Keep (fun _ => False) w1 wy → UP wy wy.heap.size q rs) := hid (fun wy hk => UP.mono (UP.low hq (Low.keep0 (hk1.trans hk))) (hk1.trans hk).size)
  have HR : Hid (greatP rs = (decide (30 < rs.length) || rs.any greatU)) := hid rfl
  generalize greatP rs = R at *
  clear hq hk1 hs1
  go_enter Tryz.func8, Tryz.ntmps8
  go_upto_region 1 with fail
  rw [← hw1]
  clear hw1
  generalize w.heap.size = sb at *
  have HC : Hid (∀ wy, Keep (fun _ => False) w1 wy → wy.cell? ⟨sb, 2, none⟩ = some (.slice q rs.length qc)) := hid (fun wy hk => cell_of (hk.get hb1 id) (by rfl))
  clear hb1
  have s2 := HC.out _ (Keep.refl _ _)
  cases e1 : decide (30 < rs.length)
  rotate_left
  · have G : Hid (R = true) := hid (by rw [HR.out, e1]; rfl)
    have e1' : decide ((30 : Int) < (rs.length : Int)) = true := decide_eq_true (by have := of_decide_eq_true e1; omega)
    go_wp2
    go_ret
    exact ⟨by rw [G.out]; rfl, HK.out⟩
  have e1' : decide ((30 : Int) < (rs.length : Int)) = false := decide_eq_false (by have := of_decide_eq_false e1; omega)
  have HR2 : Hid (R = rs.any greatU) := hid (by rw [HR.out, e1]; rfl)
  have hl : rs.length ≤ 30 := by have := of_decide_eq_false e1; omega
  go_wp2_with fail
  clear e1 e1' HR s2
  go_loopw [3] (fun i wr => ∃ k : Nat, k ≤ rs.length ∧ i = iV k ∧ (∀ j t, j < k → rs[j]? = some t → greatU t = false) ∧ Keep (fun _ => False) w1 wr) (fun i _ => rs.length + 1 - (RowKit.intOf i).toNat)
  case atStart => exact ⟨0, Nat.zero_le _, rfl, fun j t hj => by omega, Keep.refl _ _⟩
  case round =>
    obtain ⟨k, hk, rfl, hal, hkr⟩ := hrel
    have HAL := hid hal; have HKR := hid hkr
    have s2 := HC.out _ hkr
    clear hal hkr
    by_cases hlt : k < rs.length
    · obtain ⟨t, ht⟩ : ∃ t, rs[k]? = some t := ⟨rs[k], by simp [hlt]⟩
      obtain ⟨b1, o1, eq, ec, rfl, hb2, x0, x1, x2, hec, he⟩ := UP.at (HD.out wr HKR.out) ht
      have HE := hid (fun (wy : World) (hk : Keep (fun _ => False) wr wy) => EP.mono (EP.low he (Low.keep0 hk)) hk.size)
      have hin : (0 : Int) ≤ (k : Int) ∧ (k : Int) < (rs.length : Int) := ⟨by omega, by omega⟩
      have HMT := hid (List.mem_of_getElem? ht)
      have HN : Hid (greatU t = false → ∀ j u, j < k + 1 → rs[j]? = some u → greatU u = false) := hid (fun hg j u hj hu => by
        rcases Nat.lt_or_ge j k with h | h
        · exact HAL.out j u h hu
        · obtain rfl : j = k := by omega
          rw [ht] at hu; injection hu with hu; subst hu; exact hg)
      have HGU : Hid (greatU t = (decide (12 < t.exprs.length) || t.exprs.any (fun c => decide (80 < c.length)))) := hid rfl
      have HGT : Hid (greatU t = true → R = true) := hid (fun h => by rw [HR2.out, List.any_eq_true]; exact ⟨t, HMT.out, h⟩)
      generalize greatU t = U at *
      obtain ⟨n0, n1, es⟩ := t
      simp only at x0 x1 x2 hec HGU HE
      have HB2 := hid hb2
      clear ht he hb2 x0 x1 HMT hec
      by_cases hg : 12 < es.length
      · have G : Hid (R = true) := hid (HGT.out (by rw [HGU.out, decide_eq_true hg]; rfl))
        have g1 : decide ((12 : Int) < (es.length : Int)) = true := decide_eq_true (by omega)
        have g2 : decide (12 < es.length) = true := decide_eq_true hg
        clear hg
        go_wp2
        go_ret
        exact ⟨by rw [G.out]; rfl, HK.out.trans HKR.out⟩
      have g1 : decide ((12 : Int) < (es.length : Int)) = false := decide_eq_false (by omega)
      have g2 : decide (12 < es.length) = false := decide_eq_false hg
      have hel : es.length ≤ 12 := by omega
      have HGV : Hid (U = es.any (fun c => decide (80 < c.length))) := hid (by rw [HGU.out, g2]; rfl)
      go_wp2_with fail
      clear g1 g2 hg HGU
      have HX2 : Hid (∀ wy, Keep (fun _ => False) wr wy → wy.cell? ⟨b1, o1 + k * 3 + 2, none⟩ = some (.slice eq es.length ec)) := hid (fun wy hk => by rw [(Low.keep0 hk).cell HB2.out]; exact x2)
      have HCR : Hid (∀ wy, Keep (fun _ => False) wr wy → wy.cell? ⟨sb, 2, none⟩ = some (.slice (some ⟨b1, o1, none⟩) rs.length qc)) := hid (fun wy hk => HC.out _ (HKR.out.trans hk))
      clear s2 x2
      generalize wr = wo at *
      go_loopw [4] (fun i wx => ∃ m : Nat, m ≤ es.length ∧ i = iV m ∧ (∀ j t, j < m → es[j]? = some t → ¬ 80 < t.length) ∧ Keep (fun _ => False) wo wx) (fun i _ => es.length + 1 - (RowKit.intOf i).toNat)
      case atStart => exact ⟨0, Nat.zero_le _, rfl, fun j t hj => by omega, Keep.refl _ _⟩
      case round =>
        obtain ⟨m, hm, rfl, ham, hkm⟩ := hrel
        have HAM := hid ham; have HKM := hid hkm
        have s2 := HCR.out _ hkm
        have x2 := HX2.out _ hkm
        clear ham hkm
        by_cases hlm : m < es.length
        · obtain ⟨c, hc⟩ : ∃ c, es[m]? = some c := ⟨es[m], by simp [hlm]⟩
          obtain ⟨b3, o3, cp, cc, rfl, hb3, y0, _⟩ := EP.at (HE.out wr HKM.out) hc
          have hin2 : (0 : Int) ≤ (m : Int) ∧ (m : Int) < (es.length : Int) := ⟨by omega, by omega⟩
          by_cases hg : 80 < c.length
          · have G : Hid (R = true) := hid (HGT.out (by
              rw [HGV.out, List.any_eq_true]
              exact ⟨c, List.mem_of_getElem? hc, decide_eq_true hg⟩))
            have g1 : decide ((80 : Int) < (c.length : Int)) = true := decide_eq_true (by omega)
            have g2 : decide (80 < c.length) = true := decide_eq_true hg
            clear hc hg hb3
            go_wp2
            go_ret
            exact ⟨by rw [G.out]; rfl, HK.out.trans (HKR.out.trans HKM.out)⟩
          · have HM2 : Hid (∀ j t, j < m + 1 → es[j]? = some t → ¬ 80 < t.length) := hid (fun j u hj hu => by
              rcases Nat.lt_or_ge j m with h | h
              · exact HAM.out j u h hu
              · obtain rfl : j = m := by omega
                rw [hc] at hu; injection hu with hu; subst hu; exact hg)
            have g1 : decide ((80 : Int) < (c.length : Int)) = false := decide_eq_false (by omega)
            have g2 : decide (80 < c.length) = false := decide_eq_false hg
            clear hc hg hb3
            go_wp2
            go_roundw
            case rel => exact ⟨m + 1, by omega, by go_num, HM2.out, HKM.out⟩
            case measure => simp [intOf]; omega
        · obtain rfl : m = es.length := by omega
          have G : Hid (U = false) := hid (by
            rw [HGV.out, List.any_eq_false]
            intro t ht
            obtain ⟨j, hj⟩ := List.getElem?_of_mem ht
            have := HAM.out j t (List.getElem?_eq_some_iff.1 hj).1 hj
            simpa using this)
          have g0 : decide ((es.length : Int) < (es.length : Int)) = false := decide_eq_false (by omega)
          go_wp2
          go_roundw
          case rel => exact ⟨k + 1, by omega, by go_num, HN.out G.out, HKR.out.trans HKM.out⟩
          case measure => simp [intOf]; omega
    · obtain rfl : k = rs.length := by omega
      have G : Hid (R = false) := hid (by
        rw [HR2.out, List.any_eq_false]
        intro t ht
        obtain ⟨j, hj⟩ := List.getElem?_of_mem ht
        have := HAL.out j t (List.getElem?_eq_some_iff.1 hj).1 hj
        simpa using this)
      go_wp2
      go_ret
      exact ⟨by rw [G.out]; rfl, HK.out.trans HKR.out⟩
end Go.Proofs.YtlhdofkgcbmnnaaGreatDoor
