/- What is proved: the law CheckPlain answers true, of two schemas in memory. -/
import Derived.Test.YtenoeondfdiklaaPlainLaw
import Derived.Test.YtenoeondfdiklaaAwake13
import Derived.Test.YtenoeondfdiklaaGreat13
namespace Go.Proofs.Ytenoeondfdiklaa
open Go.RowKit Go.Proofs.Heap Go.Proofs.Sch Go.Proofs.Wide

set_option maxRecDepth 20000 in
set_option maxHeartbeats 16000000 in
theorem plain_walk (va : Int) (ca : List Cmp) (p : Option Addr) (z : Nat) (vb : Int) (cb : List Cmp) (p2 : Option Addr) (z2 : Nat) (w : World) (hsa : Small ca) (hsb : Small cb)
    (hca : CP w w.heap.size p ca) (hcb : CP w w.heap.size p2 cb) :
    Calls Try.prog 4 #[.agg #[.int .i64 va, .slice p ca.length z], .agg #[.int .i64 vb, .slice p2 cb.length z2]] w
      fun e w' => e = .returned (.bool true) ∧ Keep (fun _ => False) w w' := by
  obtain ⟨w3, hw3, hb1, hb2, hs3, hk3⟩ := box2 w #[.int .i64 va, .slice p ca.length z] #[.int .i64 vb, .slice p2 cb.length z2] 32 32
  have HK := hid hk3
  have HD : Hid (∀ wy, Keep (fun _ => False) w3 wy → CP wy wy.heap.size p ca ∧ CP wy wy.heap.size p2 cb) := hid (fun wy hk =>
    ⟨CP.mono (CP.low hca (Low.keep0 (hk3.trans hk))) (hk3.trans hk).size, CP.mono (CP.low hcb (Low.keep0 (hk3.trans hk))) (hk3.trans hk).size⟩)
  have HA := hid hsa
  have HB := hid hsb
  clear hca hcb hk3 hs3 hsa hsb
  go_enter Try.func4, Try.ntmps4
  go_upto_region 1 with fail
  rw [← hw3]
  clear hw3
  generalize w.heap.size = sb at *
  have HW : Hid (∀ wy, Keep (fun _ => False) w3 wy → (wy.cell? ⟨sb, 0, none⟩ = some (.int .i64 va) ∧ wy.cell? ⟨sb, 1, none⟩ = some (.slice p ca.length z)) ∧ (wy.cell? ⟨sb + 1, 0, none⟩ = some (.int .i64 vb) ∧ wy.cell? ⟨sb + 1, 1, none⟩ = some (.slice p2 cb.length z2))) := hid (fun wy hk =>
    ⟨⟨cell_of (hk.get hb1 id) (by rfl), cell_of (hk.get hb1 id) (by rfl)⟩, ⟨cell_of (hk.get hb2 id) (by rfl), cell_of (hk.get hb2 id) (by rfl)⟩⟩)
  clear hb1 hb2
  go_wp2_with fail
  refine (awake_true _).mono ?_
  rintro e w4 ⟨rfl, hk4⟩
  have HK4 := hid hk4
  obtain ⟨⟨s0, s1⟩, s2, s3⟩ := HW.out _ hk4
  clear hk4
  go_wp2_with fail
  refine (chk_Plain va ca p z vb cb p2 z2 _ HA.out HB.out (HD.out _ HK4.out).1 (HD.out _ HK4.out).2).mono ?_
  rintro e w5 ⟨rp, rc, rfl, hrc, hup, hk5⟩
  have HK5 := hid (HK4.out.trans hk5)
  clear hk5 s0 s1 s2 s3
  obtain ⟨w6, hw6, hb6, hs6, hk6⟩ := box1 w5 #[.int .i64 va, .int .i64 vb, .slice rp cb.length rc] 35
  have HU6 := hid (UP.mono (UP.low hup (Low.keep0 hk6)) hk6.size)
  have HUP := hid (UP.low hup (Low.keep0 hk6))
  have HLP := hid (lt_of_heap hb6)
  have HK6 := hid (HK5.out.trans hk6)
  have HRC := hid hrc
  have HPB := hid HK5.out.size
  clear hup hk6 hrc hs6
  go_upto_region 4 with fail
  rw [← hw6]
  clear hw6
  generalize w5.heap.size = pb at *
  have HV : Hid (∀ wy, Keep (fun _ => False) w6 wy → wy.cell? ⟨pb, 0, none⟩ = some (.int .i64 va) ∧ wy.cell? ⟨pb, 1, none⟩ = some (.int .i64 vb) ∧ wy.cell? ⟨pb, 2, none⟩ = some (.slice rp cb.length rc)) := hid (fun wy hk =>
    ⟨cell_of (hk.get hb6 id) (by rfl), cell_of (hk.get hb6 id) (by rfl), cell_of (hk.get hb6 id) (by rfl)⟩)
  have HB6 := hid hb6
  have hk6 := Keep.refl (fun _ => False) w6
  have HN := hid (show (((cb.map (plainR ca)).map PR.rul).length = cb.length) from by simp)
  clear hb6
  obtain ⟨⟨s0, s1⟩, s2, s3⟩ := HW.out _ HK6.out
  obtain ⟨v0, v1, v2⟩ := HV.out _ hk6
  go_wp2_with fail
  have hgr := law_great va ca p z vb cb p2 z2 va vb _ rp rc w6 (HD.out _ HK6.out).1 (HD.out _ HK6.out).2 HU6.out
  rw [HN.out] at hgr
  refine hgr.mono ?_
  clear hgr
  rintro e w7 ⟨⟨B, rfl, hB⟩, hk7⟩
  have HK7 := hid (HK6.out.trans hk7)
  have HV7 := hid hk7
  have HF := hid hB
  clear hB hk7 s0 s1 s2 s3 v0 v1 v2 hk6
  cases B
  rotate_left
  · go_wp2
    go_ret
    exact ⟨rfl, HK.out.trans HK7.out⟩
  have hfew := HF.out rfl
  have hla : ca.length ≤ 30 := hfew.a
  have hlb : cb.length ≤ 30 := hfew.b
  clear hfew HF
  obtain ⟨⟨s0, s1⟩, s2, s3⟩ := HW.out _ HK7.out
  go_wp2_with fail
  refine (sch_check va ca p z _ HA.out (HD.out _ HK7.out).1).mono ?_
  rintro r w8 ⟨rfl, hk8⟩
  have HK8 := hid (HK7.out.trans hk8)
  have HV8 := hid (HV7.out.trans hk8)
  clear hk8 s0 s1 s2 s3
  by_cases hck : checkC va ca = 0
  rotate_left
  · generalize checkC va ca = e at *
    have g1 : ((e : Int) != 0) = true := by simp only [bne, beq_eq_false_iff_ne.2 (show (e : Int) ≠ 0 by omega)]; rfl
    have g2 : (e != 0) = true := by simp only [bne, beq_eq_false_iff_ne.2 hck]; rfl
    have g3 : ((e : Int) == 0) = false := beq_eq_false_iff_ne.2 (by omega)
    have g4 : (e == 0) = false := beq_eq_false_iff_ne.2 hck
    clear hck
    go_wp2
    go_ret
    exact ⟨rfl, HK.out.trans HK8.out⟩
  have HCA := hid hck
  rw [hck]
  clear hck
  obtain ⟨⟨s0, s1⟩, s2, s3⟩ := HW.out _ HK8.out
  go_wp2_with fail
  refine (sch_check vb cb p2 z2 _ HB.out (HD.out _ HK8.out).2).mono ?_
  rintro r w9 ⟨rfl, hk9⟩
  have HK9 := hid (HK8.out.trans hk9)
  have HV9 := hid (HV8.out.trans hk9)
  clear hk9 s0 s1 s2 s3
  by_cases hck : checkC vb cb = 0
  rotate_left
  · generalize checkC vb cb = e at *
    have g1 : ((e : Int) != 0) = true := by simp only [bne, beq_eq_false_iff_ne.2 (show (e : Int) ≠ 0 by omega)]; rfl
    have g2 : (e != 0) = true := by simp only [bne, beq_eq_false_iff_ne.2 hck]; rfl
    have g3 : ((e : Int) == 0) = false := beq_eq_false_iff_ne.2 (by omega)
    have g4 : (e == 0) = false := beq_eq_false_iff_ne.2 hck
    clear hck
    go_wp2
    go_ret
    exact ⟨rfl, HK.out.trans HK9.out⟩
  have HCB := hid hck
  rw [hck]
  clear hck
  obtain ⟨⟨s0, s1⟩, s2, s3⟩ := HW.out _ HK9.out
  obtain ⟨v0, v1, v2⟩ := HV.out _ HV9.out
  have HCK : Hid (∀ (n : Nat) (wy : World) (qc : Nat), n ≤ cb.length → Keep (fun _ => False) w3 wy → Keep (fun _ => False) w6 wy ∨ UP wy wy.heap.size rp (plainT ca cb n) →
      Calls Try.prog 14 #[.agg #[.int .i64 va, .slice p ca.length z], .agg #[.int .i64 vb, .slice p2 cb.length z2], .agg #[.int .i64 va, .int .i64 vb, .slice rp n qc]] wy
        fun e w' => e = .returned (iV (checkPC va ca vb cb va vb (plainT ca cb n))) ∧ Keep (fun _ => False) wy w') := hid (fun n wy qc hn hk hu => by
    have hup : UP wy wy.heap.size rp (plainT ca cb n) := by
      rcases hu with hu | hu
      · have := UP.take (UP.mono (UP.low HU6.out (Low.keep0 hu)) hu.size) n
        rwa [plainT_take] at this
      · exact hu
    have h := chk_check va ca p z vb cb p2 z2 va vb (plainT ca cb n) rp qc wy HA.out HB.out (by rw [plainT_len ca cb hn]; omega) (plain_fit ca cb n) (HD.out _ hk).1 (HD.out _ hk).2 hup
    rwa [plainT_len ca cb hn] at h)
  by_cases hlt : va < vb
  rotate_left
  · have h7 := (plain_check HCA.out HCB.out cb.length).1 (by omega)
    have g1 : decide (va ≥ vb) = true := decide_eq_true (by omega)
    have g2 : decide (vb ≤ va) = true := decide_eq_true (by omega)
    go_wp2_with fail
    refine (HCK.out cb.length _ rc (Nat.le_refl _) HK9.out (.inl HV9.out)).mono ?_
    rw [h7]
    rintro e wa ⟨rfl, hka⟩
    go_wp2
    go_ret
    exact ⟨rfl, HK.out.trans (HK9.out.trans hka)⟩
  have g1 : decide (va ≥ vb) = false := decide_eq_false (by omega)
  have g2 : decide (vb ≤ va) = false := decide_eq_false (by omega)
  have h0 := (plain_check HCA.out HCB.out cb.length).2.1 hlt rfl
  go_wp2_with fail
  refine (HCK.out cb.length _ rc (Nat.le_refl _) HK9.out (.inl HV9.out)).mono ?_
  rw [h0]
  rintro e wa ⟨rfl, hka⟩
  have HKA := hid (HK9.out.trans hka)
  have HVA := hid (HV9.out.trans hka)
  clear hka s0 s1 s2 s3 v0 v1 v2 h0
  obtain ⟨⟨s0, s1⟩, s2, s3⟩ := HW.out _ HKA.out
  obtain ⟨v0, v1, v2⟩ := HV.out _ HVA.out
  by_cases hz : cb.length = 0
  · have g3 : ((cb.length : Int) == 0) = true := beq_iff_eq.2 (by omega)
    have g4 : (cb.length == 0) = true := beq_iff_eq.2 hz
    go_wp2
    go_ret
    exact ⟨rfl, HK.out.trans HKA.out⟩
  have g3 : ((cb.length : Int) == 0) = false := beq_eq_false_iff_ne.2 (by omega)
  have g4 : (cb.length == 0) = false := beq_eq_false_iff_ne.2 hz
  have hrc := HRC.out
  obtain ⟨n, hn⟩ : ∃ n : Nat, n + 1 = cb.length := ⟨cb.length - 1, by omega⟩
  have h6 := (plain_check HCA.out HCB.out n).2.2 hlt (by omega)
  have HCM := hid (HVA.out.get HB6.out id)
  have fr : wa.frozen? ⟨pb, 2, none⟩ = false := free_of HCM.out 2
  obtain ⟨wb, hwb⟩ : ∃ wb, wb = wa.setCell ⟨pb, 2, none⟩ (.slice rp n rc) := ⟨_, rfl⟩
  have HKB : Hid (Keep (fun _ => False) w3 wb) := hid (by rw [hwb]; exact HKA.out.setCell_new HPB.out _)
  have hcb6 : wb.heap[pb]? = some (.cells #[.int .i64 va, .int .i64 vb, .slice rp n rc] 35 (0, 0)) := by
    rw [hwb]; exact hsc_same HCM.out 2 _
  have HUB : Hid (UP wb wb.heap.size rp (plainT ca cb n)) := hid (by
    have hlow : Low pb w6 wb := fun b hb => by
      have h6 := HLP.out
      rw [hwb, hsc_ne _ (by omega), HVA.out.block b (by omega) id]
    have h1 := UP.take (UP.mono (UP.low HUP.out hlow) (show pb ≤ wb.heap.size by have := lt_of_heap hcb6; omega)) n
    rwa [plainT_take] at h1)
  have HC6 := hid hcb6
  clear hcb6
  go_upto_region 13 with fail
  clear s0 s1 s2 s3 v0 v1 v2
  rw [show cb.length - 1 = n by omega, ← hwb]
  clear hwb
  obtain ⟨⟨s0, s1⟩, s2, s3⟩ := HW.out _ HKB.out
  have v0 : wb.cell? ⟨pb, 0, none⟩ = some (.int .i64 va) := cell_of HC6.out (by rfl)
  have v1 : wb.cell? ⟨pb, 1, none⟩ = some (.int .i64 vb) := cell_of HC6.out (by rfl)
  have v2 : wb.cell? ⟨pb, 2, none⟩ = some (.slice rp n rc) := cell_of HC6.out (by rfl)
  go_wp2_with fail
  refine (HCK.out n _ rc (by omega) HKB.out (.inr HUB.out)).mono ?_
  rw [h6]
  rintro e wc ⟨rfl, hkc⟩
  go_wp2
  go_ret
  exact ⟨rfl, HK.out.trans (HKB.out.trans hkc)⟩

theorem plain_true (va : Int) (p : Option Addr) (z : Nat) (ca : List Cmp) (vb : Int) (p2 : Option Addr) (z2 : Nat) (cb : List Cmp) (w : World) (hca : CP w w.heap.size p ca) (hsa : Small ca) (hcb : CP w w.heap.size p2 cb) (hsb : Small cb) :
    Calls Try.prog 4 #[.agg #[.int .i64 va, .slice p ca.length z], .agg #[.int .i64 vb, .slice p2 cb.length z2]] w
      fun e w' => e = .returned (.bool true) ∧ Below w.heap.size w w' :=
  (plain_walk va ca p z vb cb p2 z2 w hsa hsb hca hcb).mono fun _ _ ⟨h1, h2⟩ => ⟨h1, h2.below⟩
end Go.Proofs.Ytenoeondfdiklaa
