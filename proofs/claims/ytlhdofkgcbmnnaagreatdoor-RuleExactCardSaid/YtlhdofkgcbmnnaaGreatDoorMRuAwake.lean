/- What is proved: the sample of the laws of rules: its answers are the document's. -/
import Derived.Test.YtlhdofkgcbmnnaaGreatDoorMWideText
import Derived.Test.YtlhdofkgcbmnnaaGreatDoorMRuEnc
import Derived.Test.YtlhdofkgcbmnnaaGreatDoorMRuDec
import Derived.Test.YtlhdofkgcbmnnaaGreatDoorMRuFind
import Derived.Test.YtlhdofkgcbmnnaaGreatDoorMExpr2
namespace Go.Proofs.YtlhdofkgcbmnnaaGreatDoor
open Go.RowKit Go.Proofs.Heap Go.Proofs.Sch Go.Proofs.Wide

abbrev smpR : List Rul := [⟨1, 0, []⟩, ⟨2, 1, [smpC]⟩]
theorem smp_encCC : encC smpC = 0 := by
  refine encC_of (by decide +kernel) ?_
  decide +kernel
theorem smp_prog : progC 1 2 smpR = 0 := by
  have h1 : ruleCk 0 ⟨1, 0, []⟩ = 0 := by decide +kernel
  have h2 : ruleCk 1 ⟨2, 1, [smpC]⟩ = 0 := by
    unfold ruleCk
    rw [if_neg (by decide), if_neg (by decide), if_neg (by decide)]
    show encRun [smpC] = 0
    unfold encRun
    rw [if_pos smp_encCC]; rfl
  unfold progC
  rw [if_pos ⟨by decide, by decide⟩]
  unfold rulesRun
  rw [if_pos h1]
  unfold rulesRun
  rw [if_pos h2]; rfl
theorem smp_fitR : ∀ r ∈ smpR, FitR r := by
  intro r hr c hc
  simp only [smpR, List.mem_cons, List.not_mem_nil, or_false] at hr
  rcases hr with rfl | rfl
  · simp at hc
  · obtain rfl := List.mem_singleton.1 hc; exact smp_fitC
theorem decR_short {s : ByteArray} (h : s.size < 10) : decER s = 4 := by
  unfold decER
  cases hg : goodR s
  · rfl
  · obtain ⟨h1, _⟩ := enc_goodR hg
    have h2 := progL_pos (partsR s).a (partsR s).b (rulesR s)
    rw [← h1, Array.length_toList] at h2
    have : s.data.size = s.size := rfl
    omega
theorem it_one (n : Nat) (h : n < 10) : itB (n : Int) = ⟨#[UInt8.ofNat (48 + n)]⟩ := by
  unfold itB Lib.itoa
  rw [if_neg (by omega), Int.toNat_natCast, Lib.decDigits_one (by omega)]
theorem smp_line1 : ruLine ⟨1, 0, []⟩ = ⟨#[102, 114, 101, 115, 104, 32, 49]⟩ := by
  have h := it_one 1 (by decide)
  unfold ruLine
  rw [if_pos rfl]
  show freshT ++ itB ((1 : Nat) : Int) = _
  rw [h]; decide +kernel
theorem smp_line2 : ruLine ⟨2, 1, [smpC]⟩ = ⟨#[50, 32, 102, 114, 111, 109, 32, 49, 32, 109, 117, 108, 40, 102, 48, 46, 48, 44, 50, 41]⟩ := by
  have h1 := it_one 1 (by decide)
  have h2 := it_one 2 (by decide)
  unfold ruLine
  rw [if_neg (by decide)]
  show joinB [itB ((2 : Nat) : Int), fromT, itB ((1 : Nat) : Int), showX smpC] 32 = _
  rw [h1, h2, smp_show]; decide +kernel
theorem smp_lines : ruLines 1 2 smpR = [⟨#[102, 114, 101, 115, 104, 32, 49]⟩, ⟨#[50, 32, 102, 114, 111, 109, 32, 49, 32, 109, 117, 108, 40, 102, 48, 46, 48, 44, 50, 41]⟩] := by
  have h : ruLines 1 2 smpR = smpR.map ruLine := if_pos smp_prog
  rw [h, List.map_cons, List.map_cons, smp_line1, smp_line2]; rfl
theorem smp_found : foundR smpR 2 = ⟨2, 1, [smpC]⟩ ∧ isR smpR 2 = true := ⟨rfl, rfl⟩
theorem smp_from : fromL 1 smpR = [2] := by rfl
theorem smp_sizeS : 20 < (progS 1 2 smpR).size := by
  have e : progS 1 2 smpR = bsB (progL 1 2 smpR) := if_pos smp_prog
  have e2 : expS smpC = bsB (expL smpC) := if_pos smp_encCC
  rw [e, bs_size]
  unfold progL
  simp only [List.length_append, leL_len, smpR, List.flatMap_cons, List.flatMap_nil, ruleL, partL_len, e2, bs_size, List.length_nil]
  unfold expL
  simp only [List.length_append, leL_len]
  omega
theorem smp_up {w : World} {Y X cb : Nat} {k1 k2 : Nat} (hY : w.heap[Y]? = some (.cells #[.int .i64 1, .int .i64 0, .slice none 0 0, .int .i64 2, .int .i64 1, .slice (some ⟨X, 0, none⟩) 1 k1] 46 (0, 0))) (h1 : 1 ≤ k1)
    (hX : w.heap[X]? = some (.cells #[.slice (some ⟨cb, 0, none⟩) 3 k2] 68 (0, 0))) (h2 : 3 ≤ k2) (hc : IP w w.heap.size (some ⟨cb, 0, none⟩) smpC) : UP w w.heap.size (some ⟨Y, 0, none⟩) smpR := by
  refine .inr ⟨Y, 0, rfl, lt_of_heap hY, fun i x hx => ?_⟩
  match i, hx with
  | 0, hx =>
    injection hx with hx; subst hx
    exact ⟨cell_of hY rfl, cell_of hY rfl, none, 0, cell_of hY rfl, Nat.le_refl _, .inl rfl⟩
  | 1, hx =>
    injection hx with hx; subst hx
    refine ⟨cell_of hY rfl, cell_of hY rfl, some ⟨X, 0, none⟩, k1, cell_of hY rfl, h1, .inr ⟨X, 0, rfl, lt_of_heap hX, fun j y hy => ?_⟩⟩
    match j, hy with
    | 0, hy =>
      injection hy with hy; subst hy
      exact ⟨some ⟨cb, 0, none⟩, k2, cell_of hX rfl, h2, hc⟩
    | j + 1, hy => simp at hy
  | i + 2, hx => simp at hx

set_option maxRecDepth 20000 in
set_option maxHeartbeats 32000000 in
theorem ru_awake (w : World) : Calls Tryz.prog 7 #[] w fun r w' => r = .returned (.bool true) ∧ Keep (fun _ => False) w w' := by
  go_enter Tryz.func7, Tryz.ntmps7
  go_wp2_with fail
  refine (w_of 2 (by omega) _).mono ?_
  rintro r w1 ⟨rfl, hk⟩
  have HK1 := hid hk
  clear hk
  obtain ⟨w2, hw2, hb2, hs2, hk2⟩ := box1 w1 #[.int .i64 2, .int .i64 0, .int .i64 0, .bool false, .int .u64 0, .int .u64 0, .int .i64 1, .int .i64 0, .int .i64 0, .bool false, .int .u64 0, .int .u64 2, .int .i64 7, .int .i64 0, .int .i64 0, .bool false, .int .u64 0, .int .u64 0] 66
  have HC2 : Hid (w2.heap[w1.heap.size]? = some (.cells ((icl ⟨2, 0, 0, zW⟩ ++ icl ⟨1, 0, 0, ⟨false, 0, 2⟩⟩ ++ icl ⟨7, 0, 0, zW⟩).toArray) 66 (0, 0))) := hid hb2
  have HK2 := hid (HK1.out.trans hk2)
  clear hb2 hs2 hk2
  go_upto_region 2 with fail
  rw [← hw2]
  clear hw2
  generalize w1.heap.size = cb at *
  obtain ⟨w3, hw3, hX3, hY3, hP3, hs3, hk3⟩ := box3 w2 #[.slice (some ⟨cb, 0, none⟩) 3 3] #[.int .i64 1, .int .i64 0, .slice none 0 0, .int .i64 2, .int .i64 1, .slice (some ⟨w2.heap.size, 0, none⟩) 1 1] #[.int .i64 1, .int .i64 2, .slice (some ⟨w2.heap.size + 1, 0, none⟩) 2 2] 68 46 24
  have HK3 := hid (HK2.out.trans hk3)
  have HU3 : Hid (UP w3 w3.heap.size (some ⟨w2.heap.size + 1, 0, none⟩) smpR) := hid (smp_up hY3 (Nat.le_refl _) hX3 (Nat.le_refl _) (IP.mono (ip3 (hk3.get HC2.out id)) (Nat.le_refl _)))
  have HP3 := hid hP3
  clear hX3 hY3 hP3 hs3 hk3
  go_upto_region 3 with fail
  rw [← hw3]
  clear hw3
  generalize w2.heap.size + 1 + 1 = pb at *
  generalize w2.heap.size + 1 = yb at *
  have HU : Hid (∀ wy, Keep (fun _ => False) w3 wy → UP wy wy.heap.size (some ⟨yb, 0, none⟩) smpR) := hid (fun wy hk => UP.mono (UP.low HU3.out (Low.keep0 hk)) hk.size)
  have HP : Hid (∀ wy, Keep (fun _ => False) w3 wy → wy.cell? ⟨pb, 0, none⟩ = some (.int .i64 1) ∧ wy.cell? ⟨pb, 1, none⟩ = some (.int .i64 2) ∧ wy.cell? ⟨pb, 2, none⟩ = some (.slice (some ⟨yb, 0, none⟩) 2 2)) := hid (fun wy hk => ⟨cell_of (hk.get HP3.out id) (by rfl), cell_of (hk.get HP3.out id) (by rfl), cell_of (hk.get HP3.out id) (by rfl)⟩)
  have HKP := hid (Keep.refl (fun _ => False) w3)
  obtain ⟨p0, p1, p2⟩ := HP.out w3 HKP.out
  have HEN := hid (ru_encode 1 2 smpR (some ⟨yb, 0, none⟩) 2 w3 (by decide) smp_fitR (HU.out w3 HKP.out))
  rw [smp_prog] at HEN
  have HSZ := hid smp_sizeS
  have HDX := hid (decR_enc smp_prog smp_fitR)
  have HSL : Hid ((progS 1 2 smpR).size ≤ 9223372036854775807) := hid (by
    have e : progS 1 2 smpR = bsB (progL 1 2 smpR) := if_pos smp_prog
    rw [e, bs_size]
    have h := flat_le ruleL 9300 (l := smpR) (fun g hg => by
      have := (prog_ok smp_prog).2.2.2 g hg
      exact ruleL_len this.2.2.2.2.1 this.2.2.2.2.2)
    have h2 : (smpR).length = 2 := rfl
    unfold progL
    simp only [List.length_append, leL_len]
    omega)
  have HDE := hid (fun wy => ru_decode (progS 1 2 smpR) wy HSL.out)
  unfold DecRP at HDE
  rw [HDX.out.1, HDX.out.2.1, HDX.out.2.2.1, HDX.out.2.2.2] at HDE
  generalize progS 1 2 smpR = sS at *
  go_wp2_with fail
  refine HEN.out.mono ?_
  rintro r w4 ⟨rfl, hk⟩
  have HK4 := hid (HKP.out.trans hk)
  clear hk HEN p0 p1 p2 HDX HSL
  go_wp2_with fail
  refine (HDE.out w4).mono ?_
  rintro r w5 ⟨dp, dc, rfl, hup, hdc, hk⟩
  have HK5 := hid (HK4.out.trans hk)
  obtain ⟨w6, hw6, hb6, hs6, hk6⟩ := box1 w5 #[.int .i64 1, .int .i64 2, .slice dp 2 dc] 24
  have HQ6 := hid hb6
  have HUQ : Hid (∀ wy, Keep (fun _ => False) w6 wy → UP wy wy.heap.size dp smpR) := hid (fun wy hk => UP.mono (UP.low hup (Low.keep0 (hk6.trans hk))) (hk6.trans hk).size)
  have HK6 := hid (HK5.out.trans hk6)
  clear hup hdc hk hb6 hs6 hk6 HDE
  go_upto_region 5 with fail
  rw [← hw6]
  clear hw6
  generalize w5.heap.size = qb at *
  have HD2 := hid (ru_decode ⟨#[77]⟩ w6 (by decide))
  unfold DecRP at HD2
  rw [decR_short (s := ⟨#[77]⟩) (by decide)] at HD2
  go_wp2_with fail
  refine HD2.out.mono ?_
  rintro r w7 ⟨dp2, dc2, rfl, _, _, hk⟩
  have HK67 := hid hk
  have HK7 := hid (HK6.out.trans hk)
  clear hk HD2
  generalize decA ⟨#[77]⟩ = xa at *
  generalize decB ⟨#[77]⟩ = xb at *
  generalize (decRs ⟨#[77]⟩).length = xl at *
  obtain ⟨w8, hw8, hb8, hs8, hk8⟩ := box1 w7 #[.int .i64 xa, .int .i64 xb, .slice dp2 xl dc2] 24
  have HK68 := hid (HK67.out.trans hk8)
  have HK8 := hid (HK7.out.trans hk8)
  clear hb8 hs8 hk8
  go_upto_region 6 with fail
  rw [← hw8]
  clear hw8
  generalize w7.heap.size = zb at *
  obtain ⟨p0, p1, p2⟩ := HP.out w8 HK8.out
  have HLN := hid (ru_lines 1 2 smpR (some ⟨yb, 0, none⟩) 2 w8 (by decide) smp_fitR (HU.out w8 HK8.out))
  unfold TxtS at HLN
  rw [smp_lines] at HLN
  go_wp2_with fail
  refine HLN.out.mono ?_
  rintro r w9 ⟨lp, lc, rfl, hlo, hk⟩
  have HK89 := hid hk
  have HK9 := hid (HK8.out.trans hk)
  have HLO := hid hlo
  clear hk HLN hlo p0 p1 p2
  obtain ⟨p0, p1, p2⟩ := HP.out w9 HK9.out
  have HFI := hid (ru_find 1 2 smpR (some ⟨yb, 0, none⟩) 2 2 w9 (by decide) (by
    intro r hr
    simp only [smpR, List.mem_cons, List.not_mem_nil, or_false] at hr
    rcases hr with rfl | rfl
    · exact ⟨by decide, fun c hc => by simp at hc⟩
    · exact ⟨by decide, fun c hc => by obtain rfl := List.mem_singleton.1 hc; decide⟩) (HU.out w9 HK9.out))
  rw [smp_found.1, smp_found.2] at HFI
  go_wp2_with fail
  refine HFI.out.mono ?_
  rintro r w10 ⟨fp, fc, rfl, _, _, hk⟩
  have HK910 := hid hk
  have HK10 := hid (HK9.out.trans hk)
  clear hk HFI p0 p1 p2
  obtain ⟨w11, hw11, hb11, hs11, hk11⟩ := box1 w10 #[.int .i64 2, .int .i64 1, .slice fp 1 fc] 46
  have HF11 := hid hb11
  have HK911 := hid (HK910.out.trans hk11)
  have HK11 := hid (HK10.out.trans hk11)
  clear hb11 hs11 hk11
  go_upto_region 8 with fail
  rw [← hw11]
  clear hw11
  generalize w10.heap.size = fb at *
  obtain ⟨p0, p1, p2⟩ := HP.out w11 HK11.out
  have HFR := hid (ru_from 1 2 smpR (some ⟨yb, 0, none⟩) 2 1 w11 (by decide) (HU.out w11 HK11.out))
  rw [smp_from] at HFR
  go_wp2_with fail
  refine HFR.out.mono ?_
  rintro r w12 ⟨rv, rfl, hro, hk⟩
  obtain ⟨rp, rc, rfl⟩ := owns_val hro
  have HRO := hid hro
  have HK1112 := hid hk
  have HK12 := hid (HK11.out.trans hk)
  have HF12 := hid (hk.get HF11.out id)
  have HK912 := hid (HK911.out.trans hk)
  clear hk HFR hro p0 p1 p2
  obtain ⟨p0, p1, p2⟩ := HP.out w12 HK12.out
  have hQ12 := HK912.out.get (HK89.out.get (HK68.out.get HQ6.out id) id) id
  have HUQ12 := hid (HUQ.out w12 ((HK68.out.trans HK89.out).trans HK912.out))
  have HQ12 := hid hQ12
  have q0 := cell_of hQ12 (i := 0) (by rfl)
  have q1 := cell_of hQ12 (i := 1) (by rfl)
  have q2 := cell_of hQ12 (i := 2) (by rfl)
  have hsz := HSZ.out
  have g1 : decide ((20 : Int) < (sS.size : Int)) = true := decide_eq_true (by omega)
  have HSM := hid (ru_same 1 2 smpR (some ⟨yb, 0, none⟩) 2 1 2 smpR dp dc w12 (by decide) (by
    intro r hr
    simp only [smpR, List.mem_cons, List.not_mem_nil, or_false] at hr
    rcases hr with rfl | rfl
    · exact ⟨by decide, fun c hc => by simp at hc⟩
    · exact ⟨by decide, fun c hc => by obtain rfl := List.mem_singleton.1 hc; decide⟩) (HU.out w12 HK12.out) HUQ12.out)
  rw [show sameP 1 2 smpR 1 2 smpR = true from decide_eq_true ⟨rfl, rfl, rfl⟩] at HSM
  go_wp2_with fail
  refine HSM.out.mono ?_
  rintro r w13 ⟨rfl, hk⟩
  have HK13 := hid (HK12.out.trans hk)
  have HF13 := hid (hk.get HF12.out id)
  have HLO13 := hid (owns_keep HLO.out (fun j hj => (HK912.out.trans hk).block j (HLO.out.lt j hj).2 id))
  have HRO13 := hid (owns_keep HRO.out (fun j hj => hk.block j (HRO.out.lt j hj).2 id))
  clear hk HSM p0 p1 p2 q0 q1 q2 hQ12 g1 hsz
  obtain ⟨lg, rfl⟩ := owns_some HLO13.out (by decide)
  obtain ⟨rg, rfl⟩ := owns_some HRO13.out (by decide)
  have l0 : w13.cell? ⟨lg, 0, none⟩ = some (.string ⟨#[102, 114, 101, 115, 104, 32, 49]⟩) := by rw [owns_cell HLO13.out (by decide)]; rfl
  have l1 : w13.cell? ⟨lg, 1, none⟩ = some (.string ⟨#[50, 32, 102, 114, 111, 109, 32, 49, 32, 109, 117, 108, 40, 102, 48, 46, 48, 44, 50, 41]⟩) := by rw [owns_cell HLO13.out (by decide)]; rfl
  have r0 : w13.cell? ⟨rg, 0, none⟩ = some (.int .i64 2) := by rw [owns_cell HRO13.out (by decide)]; rfl
  have f1 := cell_of HF13.out (i := 1) (by rfl)
  have HCH : Hid (Calls Tryz.prog 12 #[.agg #[.int .i64 0, .int .i64 0, .slice none 0 0]] w13 fun r w' => r = .returned (iV 1) ∧ Keep (fun _ => False) w13 w') := hid (prog_check 0 0 [] none 0 w13 (by decide) (by intro x hx; simp at hx) (.inl rfl))
  go_wp2_with fail
  refine HCH.out.mono ?_
  rintro r w14 ⟨rfl, hk⟩
  have HK14 := hid (HK13.out.trans hk)
  clear hk HCH l0 l1 r0 f1
  have HKF := hid (HK3.out.trans HK14.out)
  go_wp2
  go_ret
  exact ⟨rfl, HKF.out⟩
end Go.Proofs.YtlhdofkgcbmnnaaGreatDoor

namespace Go.Proofs.YtlhdofkgcbmnnaaGreatDoor
open Go.RowKit Go.Proofs.Heap Go.Proofs.Sch Go.Proofs.Wide

theorem rules_sorted : ∀ {rs : List Rul} {last : Int}, rulesRun last rs = 0 → (∀ r ∈ rs, last < r.new) ∧ ∀ (i j : Nat) (x y : Rul), i < j → rs[i]? = some x → rs[j]? = some y → x.new < y.new
  | [], last, _ => ⟨fun r hr => by simp at hr, fun i j x y _ hx => by simp at hx⟩
  | r :: rs, last, h => by
    unfold rulesRun at h
    split at h
    next hk =>
      have hk2 := ruleCk_ok hk
      obtain ⟨ih1, ih2⟩ := rules_sorted h
      refine ⟨fun x hx => ?_, fun i j x y hij hx hy => ?_⟩
      · rcases List.mem_cons.1 hx with rfl | hx
        · exact hk2.1
        · have := ih1 x hx; omega
      · match i, j, hij, hx, hy with
        | 0, j + 1, _, hx, hy =>
          injection hx with hx; subst hx
          rw [List.getElem?_cons_succ] at hy
          exact ih1 y (List.mem_of_getElem? hy)
        | i + 1, j + 1, hij, hx, hy =>
          rw [List.getElem?_cons_succ] at hx hy
          exact ih2 i j x y (by omega) hx hy
    next hk => exact absurd h hk
theorem prog_rules {a b : Int} {rs : List Rul} (h : progC a b rs = 0) : rulesRun 0 rs = 0 := by
  unfold progC at h
  split at h
  · exact h
  · omega
theorem rfound_at {a b : Int} {rs : List Rul} (h : progC a b rs = 0) {i : Nat} {x : Rul} (hx : rs[i]? = some x) : foundR rs x.new = x ∧ isR rs x.new = true := by
  have hs := (rules_sorted (prog_rules h)).2
  obtain ⟨hi, rfl⟩ := List.getElem?_eq_some_iff.1 hx
  have h3 : rs.find? (newIs rs[i].new) = some rs[i] := by
    rw [List.find?_eq_some_iff_getElem]
    refine ⟨decide_eq_true rfl, i, hi, rfl, fun j hj => ?_⟩
    have := hs j i rs[j] rs[i] hj (by simp) hx
    unfold newIs
    rw [decide_eq_false (by omega)]; rfl
  exact ⟨by unfold foundR; rw [h3]; rfl, by unfold isR; rw [h3]; rfl⟩
theorem rfound_zero {a b : Int} {rs : List Rul} (h : progC a b rs = 0) : foundR rs 0 = nilR ∧ isR rs 0 = false := by
  have hs := (rules_sorted (prog_rules h)).1
  have h3 : rs.find? (newIs 0) = none := List.find?_eq_none.2 (fun x hx => by
    have := hs x hx
    unfold newIs
    rw [decide_eq_false (by omega)]; simp)
  exact ⟨by unfold foundR; rw [h3]; rfl, by unfold isR; rw [h3]; rfl⟩
theorem from_zero (rs : List Rul) : fromL 0 rs = [] := by
  unfold fromL
  have : rs.filter (madeB 0) = [] := List.filter_eq_nil_iff.2 (fun x _ => by unfold madeB; simp)
  rw [this]; rfl
theorem from_at {id : Int} {rs : List Rul} {k : Nat} {x : Rul} (h : rs[k]? = some x) (hm : madeB id x = true) : (fromL id rs)[(fromL id (rs.take k)).length]? = some x.new ∧ (fromL id (rs.take k)).length < (fromL id rs).length := by
  have h1 : fromL id rs = fromL id (rs.take (k + 1)) ++ fromL id (rs.drop (k + 1)) := by
    unfold fromL
    rw [← List.map_append, ← List.filter_append, List.take_append_drop]
  rw [fromL_next h, if_pos hm] at h1
  have h2 : (fromL id rs)[(fromL id (rs.take k)).length]? = some x.new := by
    rw [h1, List.append_assoc, List.getElem?_append_right (Nat.le_refl _), Nat.sub_self]; rfl
  exact ⟨h2, (List.getElem?_eq_some_iff.1 h2).1⟩
theorem lit_of {rs : List Rul} (h : greatP rs = false) : rs.length ≤ 30 ∧ ∀ r ∈ rs, LitR r := by
  obtain ⟨h1, h2⟩ := greatP_no h
  exact ⟨h1, fun r hr => ⟨by have := (h2 r hr).1; omega, fun c hc => by have := (h2 r hr).2 c hc; omega⟩⟩

set_option maxRecDepth 20000 in
set_option maxHeartbeats 32000000 in
theorem ru_made (a b : Int) (rs : List Rul) (q : Option Addr) (qc : Nat) (old : Int) (w : World) (hfit : ∀ r ∈ rs, FitR r) (hq : UP w w.heap.size q rs) :
    Calls Tryz.prog 6 #[PgV a b q rs.length qc, .int .i64 old] w fun r w' => r = .returned (.bool true) ∧ Keep (fun _ => False) w w' := by
  obtain ⟨w1, hw1, hb1, hs1, hk1⟩ := box1 w #[.int .i64 a, .int .i64 b, .slice q rs.length qc] 24
  have HK1 := hid hk1; have HB1 := hid hb1
  have HU : Hid (∀ wy, Keep (fun _ => False) w wy → UP wy wy.heap.size q rs) := hid (fun wy hk => UP.mono (UP.low hq (Low.keep0 hk)) hk.size)
  have HX := hid hfit
  clear hb1 hs1 hk1 hfit hq
  go_enter Tryz.func6, Tryz.ntmps6
  go_upto_region 1 with fail
  rw [← hw1]
  clear hw1
  obtain ⟨sb, hsb⟩ : ∃ sb, w.heap.size = sb := ⟨_, rfl⟩
  have HSB := hid hsb
  rw [hsb] at HB1 ⊢
  clear hsb
  have HP : Hid (∀ wy, Keep (fun _ => False) w1 wy → wy.cell? ⟨sb, 0, none⟩ = some (.int .i64 a) ∧ wy.cell? ⟨sb, 1, none⟩ = some (.int .i64 b) ∧ wy.cell? ⟨sb, 2, none⟩ = some (.slice q rs.length qc)) := hid (fun wy hk => ⟨cell_of (hk.get HB1.out id) (by rfl), cell_of (hk.get HB1.out id) (by rfl), cell_of (hk.get HB1.out id) (by rfl)⟩)
  go_wp2_with fail
  refine (ru_awake w1).mono ?_
  rintro r w2 ⟨rfl, hk⟩
  have HKP2 := hid hk
  have HK2 := hid (HK1.out.trans hk)
  clear hk
  obtain ⟨p0, p1, p2⟩ := HP.out w2 HKP2.out
  have HGR := hid (ru_great a b rs q qc w2 (HU.out w2 HK2.out))
  go_wp2_with fail
  refine HGR.out.mono ?_
  rintro r w3 ⟨rfl, hk⟩
  have HKP3 := hid (HKP2.out.trans hk)
  have HK3 := hid (HK2.out.trans hk)
  clear hk HGR p0 p1 p2
  obtain ⟨p0, p1, p2⟩ := HP.out w3 HKP3.out
  cases hg : greatP rs
  rotate_left
  · go_wp2
    go_ret
    exact ⟨rfl, HK3.out⟩
  have HLT := hid (lit_of hg)
  have hl30 := HLT.out.1
  clear hg
  have HCK := hid (prog_check a b rs q qc w3 (by omega) HX.out (HU.out w3 HK3.out))
  obtain ⟨C, hC⟩ : ∃ C, progC a b rs = C := ⟨_, rfl⟩
  rw [hC] at HCK
  go_wp2_with fail
  refine HCK.out.mono ?_
  rintro r w4 ⟨rfl, hk⟩
  have HKP4 := hid (HKP3.out.trans hk)
  have HK4 := hid (HK3.out.trans hk)
  clear hk HCK p0 p1 p2
  by_cases hz : C = 0
  rotate_left
  · have g1 : ((C : Int) != 0) = true := by rw [bne_iff_ne]; omega
    have g2 : (C != 0) = true := by rw [bne_iff_ne]; exact hz
    clear hC hz
    go_wp2
    go_ret
    exact ⟨rfl, HK4.out⟩
  subst hz
  have HM := hid hC
  clear hC
  obtain ⟨p0, p1, p2⟩ := HP.out w4 HKP4.out
  have HFR := hid (ru_from a b rs q qc old w4 (by omega) (HU.out w4 HK4.out))
  go_wp2_with fail
  refine HFR.out.mono ?_
  rintro r w5 ⟨lv, rfl, hlo, hk⟩
  obtain ⟨lp, lc, rfl⟩ := owns_val hlo
  have HLO := hid hlo
  have HKP5 := hid (HKP4.out.trans hk)
  have HK5 := hid (HK4.out.trans hk)
  clear hk HFR hlo p0 p1 p2
  have HTK := hid (fun k => fromL_le old rs k)
  obtain ⟨ln, hln⟩ : ∃ ln, (fromL old rs).length = ln := ⟨_, rfl⟩
  have HLN := hid hln
  rw [hln] at HLO ⊢
  have hl30' : ln ≤ 30 := by have := HTK.out rs.length; rw [List.take_length] at this; omega
  clear hln
  go_wp2_with fail
  go_loopw [6, 7, 8, 9] (fun n i _ _ wr => ∃ k : Nat, k ≤ rs.length ∧ i = iV k ∧ n = iV (fromL old (rs.take k)).length ∧ Keep (fun _ => False) w5 wr) (fun _ i _ _ _ => rs.length + 1 - (intOf i).toNat)
  case atStart => exact ⟨0, Nat.zero_le _, rfl, rfl, Keep.refl _ _⟩
  case round =>
    obtain ⟨k, hk, rfl, rfl, hkr⟩ := hrel
    have HKR := hid hkr
    have HKW := hid (HK5.out.trans hkr)
    have HKP := hid (HKP5.out.trans hkr)
    clear hkr
    obtain ⟨fn, hfn⟩ : ∃ fn, (fromL old (rs.take k)).length = fn := ⟨_, rfl⟩
    have HFN := hid hfn
    rw [hfn]
    have hfn30 : fn ≤ 30 := by have := HTK.out k; omega
    clear hfn
    obtain ⟨p0, p1, p2⟩ := HP.out wr HKP.out
    by_cases hlt : k < rs.length
    · obtain ⟨x, hxk⟩ : ∃ x, rs[k]? = some x := ⟨rs[k], by simp [hlt]⟩
      have HNX := hid (fromL_next (id := old) hxk)
      have HAT := hid (fun hm => from_at (id := old) hxk hm)
      have HFA := hid (rfound_at HM.out hxk)
      have HUX : Hid (∀ wy, Keep (fun _ => False) wr wy → ∃ b1 o1 eq ec, q = some ⟨b1, o1, none⟩ ∧ b1 < wy.heap.size ∧ wy.cell? ⟨b1, o1 + k * 3, none⟩ = some (.int .i64 x.new) ∧ wy.cell? ⟨b1, o1 + k * 3 + 1, none⟩ = some (.int .i64 x.old) ∧ wy.cell? ⟨b1, o1 + k * 3 + 2, none⟩ = some (.slice eq x.exprs.length ec)) := hid (fun wy hk => by
        obtain ⟨b1, o1, eq, ec, h1, h2, h3, h4, h5, _⟩ := UP.at (HU.out wy (HKW.out.trans hk)) hxk
        exact ⟨b1, o1, eq, ec, h1, h2, h3, h4, h5⟩)
      have HFI := hid (fun (wy : World) (hk : Keep (fun _ => False) w5 wy) => ru_find a b rs q qc x.new wy (by have := HLT.out.1; omega) HLT.out.2 (HU.out wy (HK5.out.trans hk)))
      rw [HFA.out.1, HFA.out.2] at HFI
      have hin : (0 : Int) ≤ (k : Int) ∧ (k : Int) < (rs.length : Int) := ⟨by omega, by omega⟩
      clear hxk HFA
      go_upto_region 10 with fail
      clear p0 p1 p2
      go_cut [8, 9] from 24 to 101 (fun v8 v9 wx => ∃ (rb : Nat) (fp : Option Addr) (fc : Nat), v8 = .pointer (some ⟨rb, 0, none⟩) ∧ v9 = .bool true ∧ wx.heap[rb]? = some (.cells #[.int .i64 x.new, .int .i64 x.old, .slice fp x.exprs.length fc] 46 (0, 0)) ∧ Keep (fun _ => False) wr wx)
      case first =>
        have HKD := hid (Keep.refl (fun _ => False) wr).drew
        refine Plan.wp_region_tr (.st 0 (.st 1 (.st 2 (.st 3 (.st 4 (.st 5 (.st 6 (.br 7 [] (.st 8 (.st 9 (.st 10 (.ac 11 [8, 9, 10] (.ac 12 [10] (.st 13 .done)))))) 11 [0, 1, 2, 3, 4, 5, 6] (.ac 7 [] (.st 8 (.st 9 (.st 10 (.ac 12 [10] (.st 13 .done)))))))))))))) (by as_aux_lemma => kernel_rfl) (by as_aux_lemma => kernel_rfl) ?_
        generalize wr.drew = wd at *
        obtain ⟨p0, p1, p2⟩ := HP.out wd (HKP.out.trans HKD.out)
        obtain ⟨b1, o1, eq, ec, rfl, hb1, c0, c1, c2⟩ := HUX.out wd HKD.out
        iterate 7 (refine Plan.tr_st rfl ?_; go_big_quiet_step (fail); refine wpQuiet_nil ?_)
        refine Plan.tr_br rfl rfl ?_ ?_
        · go_wp2_with fail
          refine (HFI.out wd (HKR.out.trans HKD.out)).mono ?_
          rintro r w6 ⟨fp, fc, rfl, _, _, hk⟩
          have HK6 := hid (HKD.out.trans hk)
          clear hk p0 p1 p2 c0 c1 c2
          go_wp2
          refine Plan.trQ_mk Plan.chk_end ?_
          iterate 3 (refine Plan.tr_st rfl ?_; go_big_quiet_step (fail); refine wpQuiet_nil ?_)
          obtain ⟨w7, hw7, hb7, hs7, hk7⟩ := box1 w6 #[.int .i64 x.new, .int .i64 x.old, .slice fp x.exprs.length fc] 46
          have HB7 := hid hb7; have HK7 := hid (HK6.out.trans hk7)
          clear hb7 hs7 hk7
          refine Plan.tr_ac rfl ?_
          go_wp2
          refine Plan.trQ_mk ?_ ?_
          · iterate 3 (refine Plan.chk_st rfl ?_ ?_; focus (go_big_quiet_step (fail); exact wpQuiet_nil rfl))
            exact Plan.chk_end
          refine Plan.tr_ac rfl ?_
          go_wp2
          refine Plan.trQ_mk ?_ ?_
          · iterate 1 (refine Plan.chk_st rfl ?_ ?_; focus (go_big_quiet_step (fail); exact wpQuiet_nil rfl))
            exact Plan.chk_end
          iterate 1 (refine Plan.tr_st rfl ?_; go_big_quiet_step (fail); refine wpQuiet_nil ?_)
          refine Plan.tr_end ?_
          rw [← hw7]
          go_wp2
          go_meet
          case rel => exact ⟨_, fp, fc, rfl, rfl, HB7.out, HK7.out⟩
        · obtain ⟨w6, hw6, hb6, hs6, hk6⟩ := box1 wd #[.int .i64 0, .int .i64 0, .slice none 0 0] 46
          have HB6 := hid hb6; have HK6 := hid (HKD.out.trans hk6)
          have HSD : Hid (wr.heap.size ≤ wd.heap.size) := hid HKD.out.size
          clear hb6 hs6 hk6
          go_wp2
          rw [← hw6]
          clear hw6 p0 p1 p2 c0 c1 c2
          generalize wd.heap.size = rb at *
          obtain ⟨p0, p1, p2⟩ := HP.out w6 (HKP.out.trans HK6.out)
          obtain ⟨b1, o1, eq, ec, he, hb1, c0, c1, c2⟩ := HUX.out w6 HK6.out
          injection he with he; injection he with he1 he2 _; subst he1; subst he2
          refine Plan.trQ_mk ?_ ?_
          · iterate 7 (refine Plan.chk_st rfl ?_ ?_; focus (go_big_quiet_step (fail); exact wpQuiet_nil rfl))
            exact Plan.chk_end
          refine Plan.tr_ac rfl ?_
          go_wp2_with fail
          refine (HFI.out w6 (HKR.out.trans HK6.out)).mono ?_
          rintro r w7 ⟨fp, fc, rfl, _, _, hk⟩
          have HK7 := hid (HK6.out.trans hk)
          have HB7 := hid (hk.get HB6.out id)
          clear hk p0 p1 p2 c0 c1 c2
          go_wp2
          refine Plan.trQ_mk Plan.chk_end ?_
          iterate 3 (refine Plan.tr_st rfl ?_; go_big_quiet_step (fail); refine wpQuiet_nil ?_)
          have z0 := cell_of HB7.out (i := 0) (by rfl)
          have z1 := cell_of HB7.out (i := 1) (by rfl)
          have z2 := cell_of HB7.out (i := 2) (by rfl)
          have f0 := free_of HB7.out 0
          have f1 := free_of HB7.out 1
          have f2 := free_of HB7.out 2
          have HB8 : Hid ((((w7.setCell ⟨rb, 0, none⟩ (.int .i64 x.new)).setCell ⟨rb, 1, none⟩ (.int .i64 x.old)).setCell ⟨rb, 2, none⟩ (.slice fp x.exprs.length fc)).heap[rb]? = some (.cells #[.int .i64 x.new, .int .i64 x.old, .slice fp x.exprs.length fc] 46 (0, 0))) := hid (hsc_same (hsc_same (hsc_same HB7.out 0 _) 1 _) 2 _)
          have HK8 : Hid (Keep (fun _ => False) wr (((w7.setCell ⟨rb, 0, none⟩ (.int .i64 x.new)).setCell ⟨rb, 1, none⟩ (.int .i64 x.old)).setCell ⟨rb, 2, none⟩ (.slice fp x.exprs.length fc))) := hid (((HK7.out.setCell_new (p := ⟨rb, 0, none⟩) HSD.out _).setCell_new (p := ⟨rb, 1, none⟩) HSD.out _).setCell_new (p := ⟨rb, 2, none⟩) HSD.out _)
          refine Plan.tr_ac rfl ?_
          go_wp2
          refine Plan.trQ_mk ?_ ?_
          · iterate 1 (refine Plan.chk_st rfl ?_ ?_; focus (go_big_quiet_step (fail); exact wpQuiet_nil rfl))
            exact Plan.chk_end
          iterate 1 (refine Plan.tr_st rfl ?_; go_big_quiet_step (fail); refine wpQuiet_nil ?_)
          refine Plan.tr_end ?_
          clear z0 z1 z2 f0 f1 f2
          go_wp2
          go_meet
          case rel => exact ⟨rb, fp, fc, rfl, rfl, HB8.out, HK8.out⟩
      case rest =>
      obtain ⟨rb, fp, fc, rfl, rfl, hrb, hkc⟩ := hcut
      have HRB := hid hrb; have HKC := hid hkc
      clear hrb hkc
      generalize wc = we at *
      have e1 : (x.new != x.new) = false := by simp
      have e2 : (x.old != x.old) = false := by simp
      have e3 : ((x.exprs.length : Int) != (x.exprs.length : Int)) = false := by simp
      have e3' : (x.exprs.length != x.exprs.length) = false := by simp
      go_upto_region 11 with fail
      have HKD := hid HKC.out.drew
      have HRD : Hid (we.drew.heap[rb]? = some (.cells #[.int .i64 x.new, .int .i64 x.old, .slice fp x.exprs.length fc] 46 (0, 0))) := HRB
      refine Plan.wp_region_pl [(false, 0, []), (false, 1, []), (false, 2, []), (false, 3, []), (false, 4, []), (false, 5, []), (false, 6, []), (false, 7, []), (false, 8, []), (false, 9, []), (false, 10, []), (false, 11, []), (false, 12, []), (false, 13, []), (false, 14, []), (false, 15, []), (false, 16, []), (false, 17, []), (false, 18, []), (false, 19, []), (false, 20, []), (false, 21, []), (false, 22, []), (false, 23, []), (false, 24, []), (false, 25, []), (false, 26, []), (false, 27, []), (false, 28, []), (false, 29, []), (false, 30, []), (false, 31, []), (false, 32, []), (false, 33, []), (false, 34, []), (false, 35, []), (false, 36, [])] (by as_aux_lemma => kernel_rfl) (by as_aux_lemma => kernel_rfl) ?_
      generalize we.drew = wd at *
      obtain ⟨p0, p1, p2⟩ := HP.out wd (HKP.out.trans HKD.out)
      obtain ⟨b1, o1, eq, ec, rfl, hb1, c0, c1, c2⟩ := HUX.out wd HKD.out
      have r0 := cell_of HRD.out (i := 0) (by rfl)
      have r1 := cell_of HRD.out (i := 1) (by rfl)
      have r2 := cell_of HRD.out (i := 2) (by rfl)
      iterate 37 (refine Plan.pl_st rfl ?_; go_big_quiet_step (fail); refine wpQuiet_nil ?_)
      refine Plan.pl_end ?_
      clear p0 p1 p2 c0 c1 c2 e1 e2 e3 e3' r2 hb1
      by_cases hop : x.old = old ∧ old ≠ 0
      rotate_left
      · have G : Hid (fn = (fromL old (rs.take (k + 1))).length) := hid (by rw [HNX.out, if_neg (by unfold madeB; simpa using hop), List.append_nil, HFN.out])
        by_cases h1 : x.old = old
        · have h0 : old = 0 := by
            rcases Classical.em (old = 0) with h | h
            · exact h
            · exact absurd ⟨h1, h⟩ hop
          have g1 : (x.old == old) = true := by simp [h1]
          have g2 : (old != 0) = false := by rw [h0]; rfl
          clear hop h0 h1
          go_wp2
          go_roundw
          case rel => exact ⟨k + 1, by omega, by go_num, by rw [← G.out], HKR.out.trans HKD.out⟩
          case measure => simp [intOf]; omega
        · have g1 : (x.old == old) = false := beq_eq_false_iff_ne.2 h1
          clear hop h1
          go_wp2
          go_roundw
          case rel => exact ⟨k + 1, by omega, by go_num, by rw [← G.out], HKR.out.trans HKD.out⟩
          case measure => simp [intOf]; omega
      · have HMD : Hid (madeB old x = true) := hid (decide_eq_true hop)
        have G : Hid ((fromL old (rs.take (k + 1))).length = fn + 1) := hid (by rw [HNX.out, if_pos HMD.out, List.length_append, HFN.out]; rfl)
        have hat := (HAT.out HMD.out).1
        have hfl : fn < ln := by have := (HAT.out HMD.out).2; rw [HFN.out, HLN.out] at this; exact this
        rw [HFN.out] at hat
        obtain ⟨lg, rfl⟩ := owns_some HLO.out (by omega)
        have HOL := hid (fun (wy : World) (hk : Keep (fun _ => False) w5 wy) => owns_keep HLO.out (fun j hj => hk.block j (HLO.out.lt j hj).2 id))
        have HCL : Hid (∀ wy, Keep (fun _ => False) w5 wy → wy.cell? ⟨lg, fn, none⟩ = some (.int .i64 x.new)) := hid (fun wy hk => by rw [owns_cell (HOL.out wy hk) hfl, List.getElem?_map, hat]; rfl)
        have g1 : (x.old == old) = true := by simp [hop.1]
        have g2 : (old != 0) = true := bne_iff_ne.2 hop.2
        clear hat hop
        go_upto_region 14 with fail
        clear g1 g2 r0 r1
        have HKE := hid HKD.out.drew
        have HRE : Hid (wd.drew.heap[rb]? = some (.cells #[.int .i64 x.new, .int .i64 x.old, .slice fp x.exprs.length fc] 46 (0, 0))) := HRD
        refine Plan.wp_region_pl [(false, 0, []), (false, 1, []), (false, 2, []), (false, 3, []), (false, 4, []), (false, 5, []), (false, 6, []), (false, 7, []), (false, 8, []), (false, 9, []), (false, 10, []), (false, 11, []), (false, 12, [])] (by as_aux_lemma => kernel_rfl) (by as_aux_lemma => kernel_rfl) ?_
        generalize wd.drew = wf at *
        have l0 := HCL.out wf (HKR.out.trans HKE.out)
        have r0 := cell_of HRE.out (i := 0) (by rfl)
        have e1 : (x.new != x.new) = false := by simp
        have g3 : decide ((ln : Int) ≤ (fn : Int)) = false := decide_eq_false (by omega)
        have g4 : decide (ln ≤ fn) = false := decide_eq_false (by omega)
        have hin2 : (0 : Int) ≤ (fn : Int) ∧ (fn : Int) < (ln : Int) := ⟨by omega, by omega⟩
        iterate 13 (refine Plan.pl_st rfl ?_; go_big_quiet_step (fail); refine wpQuiet_nil ?_)
        refine Plan.pl_end ?_
        clear l0 r0 e1 g3 g4
        go_wp2
        go_roundw
        case rel => exact ⟨k + 1, by omega, by go_num, by rw [G.out]; go_num, HKR.out.trans HKE.out⟩
        case measure => simp [intOf]; omega
    · obtain rfl : k = rs.length := by omega
      have hfe : fn = ln := by have h := HFN.out; rw [List.take_length] at h; have := HLN.out; omega
      subst hfe
      have g0 : decide ((rs.length : Int) < (rs.length : Int)) = false := decide_eq_false (by omega)
      have HFI := hid (ru_find a b rs q qc 0 wr (by omega) HLT.out.2 (HU.out wr HKW.out))
      rw [(rfound_zero HM.out).1, (rfound_zero HM.out).2] at HFI
      simp only [nilR, RulV, List.length_nil] at HFI
      go_wp2_with fail
      refine HFI.out.mono ?_
      rintro r w6 ⟨fp, fc, rfl, _, _, hk⟩
      have HKP6 := hid (HKP.out.trans hk)
      have HK6 := hid (HKW.out.trans hk)
      clear hk HFI p0 p1 p2 g0
      obtain ⟨w7, hw7, hb7, hs7, hk7⟩ := box1 w6 #[.int .i64 0, .int .i64 0, .slice fp 0 fc] 46
      have HKP7 := hid (HKP6.out.trans hk7)
      have HK7 := hid (HK6.out.trans hk7)
      clear hb7 hs7 hk7
      go_upto_region 18 with fail
      rw [← hw7]
      clear hw7
      have HKP8 := hid HKP7.out.drew; have HK8 := hid HK7.out.drew
      refine Plan.wp_region_pl [(false, 0, []), (false, 1, []), (false, 2, []), (false, 3, []), (false, 4, []), (false, 5, []), (false, 6, []), (false, 7, []), (false, 8, []), (false, 9, []), (true, 10, []), (false, 11, []), (false, 12, []), (false, 13, []), (false, 14, []), (false, 15, []), (false, 18, []), (false, 19, []), (false, 20, []), (true, 16, [20, 19, 18]), (false, 17, []), (false, 21, []), (false, 22, []), (false, 23, [])] (by as_aux_lemma => kernel_rfl) (by as_aux_lemma => kernel_rfl) ?_
      generalize w7.drew = w8 at *
      have g1 : ((fn : Int) == (fn : Int)) = true := by simp
      have g1' : (fn == fn) = true := by simp
      obtain ⟨p0, p1, p2⟩ := HP.out w8 HKP8.out
      iterate 10 (refine Plan.pl_st rfl ?_; go_big_quiet_step (fail); refine wpQuiet_nil ?_)
      have HFR := hid (ru_from a b rs q qc 0 w8 (by omega) (HU.out w8 HK8.out))
      rw [from_zero] at HFR
      refine Plan.pl_ac rfl ?_
      go_wp2_with fail
      refine HFR.out.mono ?_
      rintro r w9 ⟨zv, rfl, hzo, hk⟩
      obtain ⟨zp, zc, rfl⟩ := owns_val hzo
      have HKP9 := hid (HKP8.out.trans hk); have HK9 := hid (HK8.out.trans hk)
      clear hk hzo p0 p1 p2 HFR g1 g1'
      go_wp2
      refine Plan.plQ_mk Plan.chk_end ?_
      obtain ⟨p0, p1, p2⟩ := HP.out w9 HKP9.out
      iterate 8 (refine Plan.pl_st rfl ?_; go_big_quiet_step (fail); refine wpQuiet_nil ?_)
      have HLN2 := hid (ru_lines a b rs q qc w9 (by omega) HX.out (HU.out w9 HK9.out))
      unfold TxtS at HLN2
      rw [show ruLines a b rs = rs.map ruLine from if_pos HM.out, List.length_map] at HLN2
      refine Plan.pl_ac rfl ?_
      go_wp2_with fail
      refine HLN2.out.mono ?_
      rintro r w10 ⟨yp, yc, rfl, _, hk⟩
      have HKP10 := hid (HKP9.out.trans hk); have HK10 := hid (HK9.out.trans hk)
      clear hk p0 p1 p2 HLN2
      obtain ⟨p0, p1, p2⟩ := HP.out w10 HKP10.out
      go_wp2
      refine Plan.plQ_mk ?_ ?_
      · iterate 3 (refine Plan.chk_st rfl ?_ ?_; focus (go_big_quiet_step (fail); exact wpQuiet_nil rfl))
        exact Plan.chk_end
      have g2 : ((rs.length : Int) == (rs.length : Int)) = true := by simp
      have g2' : (rs.length == rs.length) = true := by simp
      iterate 4 (refine Plan.pl_st rfl ?_; go_big_quiet_step (fail); refine wpQuiet_nil ?_)
      refine Plan.pl_end ?_
      clear p0 p1 p2 g2 g2'
      go_wp2
      go_ret
      exact ⟨rfl, HK10.out⟩
end Go.Proofs.YtlhdofkgcbmnnaaGreatDoor

namespace Go.Proofs.YtlhdofkgcbmnnaaGreatDoor
open Go.RowKit Go.Proofs.Heap Go.Proofs.Sch Go.Proofs.Wide

theorem one_byteR (w : World) (m : UInt8) : (convert 59 9 (.slice (some ⟨w.heap.size, 0, none⟩) 1 1)).run Tryz.prog (w.alloc (.cells #[.int .u8 (m.toNat : Int)] 5)) = .ok (.string ⟨#[m]⟩) (w.alloc (.cells #[.int .u8 (m.toNat : Int)] 5)) := by
  refine run_bytes_string _ _ _ 5 Tryz.underlying59 Tryz.underlying5 Tryz.underlying9 _ 0 1 1 [m] rfl (fun i x hx => ?_)
  match i, hx with
  | 0, hx =>
    injection hx with hx
    subst hx
    exact cell_of (heap_alloc_new w _) rfl
  | _ + 1, hx => simp at hx
theorem progS_size {a b : Int} {rs : List Rul} (h : progC a b rs = 0) : (progS a b rs).size ≤ 250000 := by
  have e : progS a b rs = bsB (progL a b rs) := if_pos h
  obtain ⟨_, _, h2, h3⟩ := prog_ok h
  have h4 := flat_le ruleL 9300 (l := rs) (fun g hg => by
    have := h3 g hg
    exact ruleL_len this.2.2.2.2.1 this.2.2.2.2.2)
  rw [e, bs_size]
  unfold progL
  simp only [List.length_append, leL_len]
  have : rs.length * 9300 ≤ 24 * 9300 := Nat.mul_le_mul_right _ h2
  omega
theorem prog_two {a b c d : Int} {rs us : List Rul} (h : progC a b rs = 0) (hf : ∀ r ∈ rs, FitR r) (h2 : progC c d us = 0) (hf2 : ∀ r ∈ us, FitR r) : ((progS a b rs).toList == (progS c d us).toList) = sameP a b rs c d us := by
  apply Bool.eq_iff_iff.2
  unfold sameP
  rw [beq_iff_eq, decide_eq_true_iff]
  constructor
  · intro h3
    rw [tl_eq, tl_eq] at h3
    refine progS_inj h hf h2 hf2 ?_
    apply ByteArray.ext
    exact Array.toList_inj.1 h3
  · rintro ⟨rfl, rfl, rfl⟩; rfl
theorem small_lit {rs : List Rul} (h : ∀ r ∈ rs, LitR r) : ∀ r ∈ rs, SmR r := fun r hr => ⟨by have := (h r hr).1; omega, fun c hc => by have := (h r hr).2 c hc; omega⟩

set_option maxRecDepth 20000 in
set_option maxHeartbeats 32000000 in
theorem ru_back (a b c d : Int) (rs us : List Rul) (pa : Option Addr) (ca : Nat) (pb : Option Addr) (cb : Nat) (bytes : ByteArray) (m : UInt8) (w : World) (hfA : ∀ r ∈ rs, FitR r) (hfB : ∀ r ∈ us, FitR r) (hA : UP w w.heap.size pa rs) (hB : UP w w.heap.size pb us) (hbs : bytes.size ≤ 9223372036854775807) :
    Calls Tryz.prog 5 #[PgV a b pa rs.length ca, PgV c d pb us.length cb, .string bytes, .int .u8 (m.toNat : Int)] w fun r w' => r = .returned (.bool true) ∧ Keep (fun _ => False) w w' := by
  obtain ⟨w1, hw1, hb1, hb2, hs1, hk1⟩ := box2 w #[.int .i64 a, .int .i64 b, .slice pa rs.length ca] #[.int .i64 c, .int .i64 d, .slice pb us.length cb] 24 24
  have HK1 := hid hk1; have HA1 := hid hb1; have HB1 := hid hb2
  have HIA := hid (fun (wy : World) (hk : Keep (fun _ => False) w wy) => UP.mono (UP.low hA (Low.keep0 hk)) hk.size)
  have HIB := hid (fun (wy : World) (hk : Keep (fun _ => False) w wy) => UP.mono (UP.low hB (Low.keep0 hk)) hk.size)
  have HDC := hid (fun wy => ru_decode bytes wy hbs)
  have HFA := hid hfA; have HFB := hid hfB
  clear hb1 hb2 hs1 hk1 hA hB hfA hfB
  have HAO := hid (Nat.le_refl w.heap.size)
  go_enter Tryz.func5, Tryz.ntmps5
  go_upto_region 1 with fail
  rw [← hw1]
  clear hw1
  generalize w.heap.size + 1 = bB at *
  generalize w.heap.size = aB at *
  go_wp2_with fail
  refine (ru_awake w1).mono ?_
  rintro r w2 ⟨rfl, hk⟩
  have HA2 := hid (hk.get HA1.out id); have HB2 := hid (hk.get HB1.out id); have HK2 := hid (HK1.out.trans hk)
  clear hk
  have a0 := cell_of HA2.out (i := 0) (by rfl)
  have a1 := cell_of HA2.out (i := 1) (by rfl)
  have a2 := cell_of HA2.out (i := 2) (by rfl)
  go_wp2_with fail
  refine (ru_great a b rs pa ca w2 (HIA.out w2 HK2.out)).mono ?_
  rintro r w3 ⟨rfl, hk⟩
  have HA3 := hid (hk.get HA2.out id); have HB3 := hid (hk.get HB2.out id); have HK3 := hid (HK2.out.trans hk)
  clear hk
  clear a0 a1 a2
  have b0 := cell_of HB3.out (i := 0) (by rfl)
  have b1 := cell_of HB3.out (i := 1) (by rfl)
  have b2 := cell_of HB3.out (i := 2) (by rfl)
  cases ga : greatP rs
  rotate_left
  · clear ga
    go_wp2
    go_ret
    exact ⟨rfl, HK3.out⟩
  have HSA := hid (lit_of ga)
  clear ga
  go_wp2_with fail
  refine (ru_great c d us pb cb w3 (HIB.out w3 HK3.out)).mono ?_
  rintro r w4 ⟨rfl, hk⟩
  have HA4 := hid (hk.get HA3.out id); have HB4 := hid (hk.get HB3.out id); have HK4 := hid (HK3.out.trans hk)
  clear hk
  clear b0 b1 b2
  cases gb : greatP us
  rotate_left
  · clear gb
    go_wp2
    go_ret
    exact ⟨rfl, HK4.out⟩
  have HSB := hid (lit_of gb)
  clear gb
  by_cases hl : 8192 < bytes.size
  · have g1 : decide ((8192 : Int) < (bytes.size : Int)) = true := decide_eq_true (by omega)
    have g2 : decide (8192 < bytes.size) = true := decide_eq_true hl
    go_wp2
    go_ret
    exact ⟨rfl, HK4.out⟩
  have g1 : decide ((8192 : Int) < (bytes.size : Int)) = false := decide_eq_false (by omega)
  have g2 : decide (8192 < bytes.size) = false := decide_eq_false hl
  clear hl
  go_wp2_with fail
  clear g1 g2
  obtain ⟨E, hE⟩ : ∃ E, decER bytes = E := ⟨_, rfl⟩
  have HE : Hid ((E = 0 ∧ goodR bytes = true) ∨ (E = 4 ∧ goodR bytes = false)) := hid (by
    rw [← hE]; unfold decER
    cases goodR bytes
    · exact .inr ⟨rfl, rfl⟩
    · exact .inl ⟨rfl, rfl⟩)
  refine (HDC.out w4).mono ?_
  rintro r w5 ⟨p5, c5, rfl, hcp, hcl, hk⟩
  rw [hE]
  clear hE
  have HCP5 := hid hcp; have HCL5 := hid hcl
  have HA5 := hid (hk.get HA4.out id); have HB5 := hid (hk.get HB4.out id); have HK5 := hid (HK4.out.trans hk)
  clear hcp hcl hk HDC
  have HPG : Hid (decER bytes = 0 → progC (decA bytes) (decB bytes) (decRs bytes) = 0 ∧ progS (decA bytes) (decB bytes) (decRs bytes) = bytes) := hid progS_dec
  have HFD := hid (decRs_fit bytes)
  have HE2 : Hid (goodR bytes = true → decER bytes = 0) := hid (fun h => by unfold decER; rw [if_pos h])
  generalize decA bytes = da at *
  generalize decB bytes = db at *
  generalize decRs bytes = dr at *
  obtain ⟨w6, hw6, hb6, hs6, hk6⟩ := box1 w5 #[.int .i64 da, .int .i64 db, .slice p5 dr.length c5] 24
  have HX6 := hid hb6
  have HA6 := hid (hk6.get HA5.out id); have HB6 := hid (hk6.get HB5.out id); have HK6 := hid (HK5.out.trans hk6)
  have HCP6 := hid (UP.mono (UP.low HCP5.out (Low.keep0 hk6)) hk6.size)
  clear hb6 hs6 hk6 HCP5
  go_upto_region 6 with fail
  rw [← hw6]
  clear hw6
  generalize w5.heap.size = xB at *
  go_upto_if 42 with fail
  go_cut [11, 12] from 42 to 54 (fun _ _ wx => Keep (fun _ => False) w6 wx)
  case first =>
    rcases HE.out with ⟨rfl, hg⟩ | ⟨rfl, hg⟩
    · obtain ⟨hck, hee⟩ := HPG.out (HE2.out hg)
      have hse : (!bytes.toList == bytes.toList) = false := by simp
      have HCE := hid (ru_encode da db dr p5 c5 w6 (by have := (prog_ok hck).2.2.1; omega) HFD.out HCP6.out)
      rw [hee, hck] at HCE
      clear hg hck hee
      have x0 := cell_of HX6.out (i := 0) (by rfl)
      have x1 := cell_of HX6.out (i := 1) (by rfl)
      have x2 := cell_of HX6.out (i := 2) (by rfl)
      go_wp2_with fail
      refine HCE.out.mono ?_
      rintro r w7 ⟨rfl, hk⟩
      have HKX := hid hk
      clear hk
      clear x0 x1 x2
      go_wp2
      go_meet
      case rel => exact HKX.out
    · go_wp2
      go_meet
      case rel => exact Keep.refl _ _
  case rest =>
  have HKC := hid hcut
  clear hcut
  have HA7 := hid (HKC.out.get HA6.out id); have HB7 := hid (HKC.out.get HB6.out id); have HK7 := hid (HK6.out.trans HKC.out)
  clear HKC HX6 HCP6 HCL5 HE HPG HFD HE2
  generalize wc = w7 at *
  have a0 := cell_of HA7.out (i := 0) (by rfl)
  have a1 := cell_of HA7.out (i := 1) (by rfl)
  have a2 := cell_of HA7.out (i := 2) (by rfl)
  have HCE := hid (ru_encode a b rs pa ca w7 (by have := HSA.out.1; omega) HFA.out (HIA.out w7 HK7.out))
  go_wp2_with fail
  refine HCE.out.mono ?_
  rintro r w8 ⟨rfl, hk⟩
  have HA8 := hid (hk.get HA7.out id); have HB8 := hid (hk.get HB7.out id); have HK8 := hid (HK7.out.trans hk)
  clear hk HCE
  clear a0 a1 a2
  have b0 := cell_of HB8.out (i := 0) (by rfl)
  have b1 := cell_of HB8.out (i := 1) (by rfl)
  have b2 := cell_of HB8.out (i := 2) (by rfl)
  have HCE := hid (ru_encode c d us pb cb w8 (by have := HSB.out.1; omega) HFB.out (HIB.out w8 HK8.out))
  go_wp2_with fail
  refine HCE.out.mono ?_
  rintro r w9 ⟨rfl, hk⟩
  have HA9 := hid (hk.get HA8.out id); have HB9 := hid (hk.get HB8.out id); have HK9 := hid (HK8.out.trans hk)
  clear hk HCE
  clear b0 b1 b2
  by_cases hz : progC a b rs = 0
  rotate_left
  · have he : progS a b rs = ⟨#[]⟩ := if_neg hz
    rw [he]
    obtain ⟨C, hC⟩ : ∃ C, progC a b rs = C := ⟨_, rfl⟩
    rw [hC] at hz ⊢
    have g1 : ((C : Int) != 0) = true := by rw [bne_iff_ne]; omega
    have g2 : (C != 0) = true := by rw [bne_iff_ne]; exact hz
    clear he hC hz
    go_wp2
    go_ret
    exact ⟨rfl, HK9.out⟩
  have HM := hid hz
  rw [hz]
  clear hz
  have HDA := hid (ru_decode (progS a b rs) w9 (by have := progS_size HM.out; omega))
  have HS1 : Hid (decA (progS a b rs) = a ∧ decB (progS a b rs) = b ∧ decRs (progS a b rs) = rs ∧ decER (progS a b rs) = 0) := hid (decR_enc HM.out HFA.out)
  have HS2 := hid (decR_more HM.out HFA.out m)
  have HS3 := hid (decR_less HM.out HFA.out)
  have HS4 := hid (progS_size HM.out)
  have HS5 : Hid (1 ≤ (progS a b rs).size) := hid (by
    have e : progS a b rs = bsB (progL a b rs) := if_pos HM.out
    rw [e, bs_size]; have := progL_pos a b rs; omega)
  have HTW : Hid (∀ (hb : progC c d us = 0), ((progS a b rs).toList == (progS c d us).toList) = sameP a b rs c d us) := hid (fun hb => prog_two HM.out HFA.out hb HFB.out)
  generalize progS a b rs = eb at *
  obtain ⟨n, hn⟩ : ∃ n, eb.size = n + 1 := ⟨eb.size - 1, by have := HS5.out; omega⟩
  have HN := hid hn
  rw [show eb.size - 1 = n by omega] at HS3
  clear hn
  go_wp2_with fail
  refine HDA.out.mono ?_
  rintro r w10 ⟨p6, c6, rfl, hcp, hcl, hk⟩
  rw [HS1.out.2.2.1] at hcp hcl
  rw [HS1.out.1, HS1.out.2.1, HS1.out.2.2.1, HS1.out.2.2.2]
  have HA10 := hid (hk.get HA9.out id); have HB10 := hid (hk.get HB9.out id); have HK10 := hid (HK9.out.trans hk)
  obtain ⟨w11, hw11, hb11, hs11, hk11⟩ := box1 w10 #[.int .i64 a, .int .i64 b, .slice p6 rs.length c6] 24
  have HX11 := hid hb11
  have HA11 := hid (hk11.get HA10.out id); have HB11 := hid (hk11.get HB10.out id); have HK11 := hid (HK10.out.trans hk11)
  have HCA := hid (UP.mono (UP.low hcp (Low.keep0 hk11)) hk11.size)
  clear hb11 hs11 hk11 hcp hcl hk HDA
  go_upto_region 15 with fail
  rw [← hw11]
  clear hw11
  generalize w10.heap.size = yB at *
  have hcv := one_byteR w11 m
  obtain ⟨w12, hw12, hb12, hs12, hk12⟩ := box1 w11 #[.int .u8 (m.toNat : Int)] 5
  have HX12 := hid (hk12.get HX11.out id); have HA12 := hid (hk12.get HA11.out id); have HB12 := hid (hk12.get HB11.out id); have HK12 := hid (HK11.out.trans hk12)
  have HF := hid hk12
  clear hb12 hs12 hk12
  have hz1 : ¬ (9223372036854775807 < eb.size + 1) := by have := HS4.out; omega
  have HDM := hid (fun wy => ru_decode (eb ++ ⟨#[m]⟩) wy (by rw [ByteArray.size_append]; have := HS4.out; have h : (⟨#[m]⟩ : ByteArray).size = 1 := rfl; omega))
  generalize hbx : eb ++ ⟨#[m]⟩ = bx at *
  go_wp2_with fail
  rw [← hw12]
  clear hw12 hcv hz1 hbx
  refine (HDM.out w12).mono ?_
  rintro r w13 ⟨p7, c7, rfl, _, _, hk⟩
  rw [HS2.out]
  have HX13 := hid (hk.get HX12.out id); have HA13 := hid (hk.get HA12.out id); have HB13 := hid (hk.get HB12.out id); have HK13 := hid (HK12.out.trans hk); have HF13 := hid (HF.out.trans hk)
  clear hk HDM
  generalize decA bx = yv at *
  generalize decB bx = yv2 at *
  generalize (decRs bx).length = yl at *
  obtain ⟨w14, hw14, hb14, hs14, hk14⟩ := box1 w13 #[.int .i64 yv, .int .i64 yv2, .slice p7 yl c7] 24
  have HX14 := hid (hk14.get HX13.out id); have HA14 := hid (hk14.get HA13.out id); have HB14 := hid (hk14.get HB13.out id); have HK14 := hid (HK13.out.trans hk14); have HF14 := hid (HF13.out.trans hk14)
  clear hb14 hs14 hk14
  go_upto_region 16 with fail
  rw [← hw14]
  clear hw14
  generalize w13.heap.size = zB at *
  have HDL := hid (fun wy => ru_decode (eb.extract 0 n) wy (by rw [ByteArray.size_extract]; have := HS4.out; omega))
  have hn := HN.out
  have hnb : n ≤ 9223372036854775806 := by have := HS4.out; omega
  have hwn : wrap64 (n : Int) = (n : Int) := by unfold wrap64; omega
  have hin : (0 : Int) ≤ (n : Int) ∧ (n : Int) ≤ (n : Int) + 1 := ⟨by omega, by omega⟩
  go_wp2_with fail
  refine (HDL.out w14).mono ?_
  rintro r w15 ⟨p8, c8, rfl, _, _, hk⟩
  rw [HS3.out]
  have HX15 := hid (hk.get HX14.out id); have HA15 := hid (hk.get HA14.out id); have HB15 := hid (hk.get HB14.out id); have HK15 := hid (HK14.out.trans hk); have HF15 := hid (HF14.out.trans hk)
  clear hk HDL hn hnb hwn hin
  generalize decA (eb.extract 0 n) = yc at *
  generalize decB (eb.extract 0 n) = yc2 at *
  generalize (decRs (eb.extract 0 n)).length = yl2 at *
  obtain ⟨w16, hw16, hb16, hs16, hk16⟩ := box1 w15 #[.int .i64 yc, .int .i64 yc2, .slice p8 yl2 c8] 24
  have HX16 := hid (hk16.get HX15.out id); have HA16 := hid (hk16.get HA15.out id); have HB16 := hid (hk16.get HB15.out id); have HK16 := hid (HK15.out.trans hk16); have HF16 := hid (HF15.out.trans hk16)
  clear hb16 hs16 hk16
  go_upto_region 17 with fail
  rw [← hw16]
  clear hw16
  generalize w15.heap.size = uB at *
  have HSM := hid (ru_same a b rs p6 c6 a b rs pa ca w16 (by have := HSA.out.1; omega) (small_lit HSA.out.2) (UP.mono (UP.low HCA.out (Low.keep0 HF16.out)) HF16.out.size) (HIA.out w16 HK16.out))
  rw [show sameP a b rs a b rs = true from decide_eq_true ⟨rfl, rfl, rfl⟩] at HSM
  have x0 := cell_of HX16.out (i := 0) (by rfl)
  have x1 := cell_of HX16.out (i := 1) (by rfl)
  have x2 := cell_of HX16.out (i := 2) (by rfl)
  have a0 := cell_of HA16.out (i := 0) (by rfl)
  have a1 := cell_of HA16.out (i := 1) (by rfl)
  have a2 := cell_of HA16.out (i := 2) (by rfl)
  by_cases hzb : progC c d us = 0
  · have htw := HTW.out hzb
    rw [hzb]
    clear hzb
    go_wp2_with fail
    refine HSM.out.mono ?_
    rintro r w17 ⟨rfl, hk⟩
    have HA17 := hid (hk.get HA16.out id); have HB17 := hid (hk.get HB16.out id); have HK17 := hid (HK16.out.trans hk)
    clear hk
    clear x0 x1 x2 a0 a1 a2
    have a0 := cell_of HA17.out (i := 0) (by rfl)
    have a1 := cell_of HA17.out (i := 1) (by rfl)
    have a2 := cell_of HA17.out (i := 2) (by rfl)
    have b0 := cell_of HB17.out (i := 0) (by rfl)
    have b1 := cell_of HB17.out (i := 1) (by rfl)
    have b2 := cell_of HB17.out (i := 2) (by rfl)
    have HSN := hid (ru_same a b rs pa ca c d us pb cb w17 (by have := HSA.out.1; omega) (small_lit HSA.out.2) (HIA.out w17 HK17.out) (HIB.out w17 HK17.out))
    generalize sameP a b rs c d us = dd at *
    go_wp2_with fail
    refine HSN.out.mono ?_
    rintro r w18 ⟨rfl, hk⟩
    have HK18 := hid (HK17.out.trans hk)
    clear hk
    cases dd
    · go_wp2
      go_ret
      exact ⟨rfl, HK18.out⟩
    · go_wp2
      go_ret
      exact ⟨rfl, HK18.out⟩
  · obtain ⟨C, hC⟩ : ∃ C, progC c d us = C := ⟨_, rfl⟩
    rw [hC] at hzb ⊢
    have g1 : ((C : Int) != 0) = true := by rw [bne_iff_ne]; omega
    have g2 : (C != 0) = true := by rw [bne_iff_ne]; exact hzb
    clear hC hzb
    go_wp2_with fail
    refine HSM.out.mono ?_
    rintro r w17 ⟨rfl, hk⟩
    have HK17 := hid (HK16.out.trans hk)
    clear hk
    go_wp2
    go_ret
    exact ⟨rfl, HK17.out⟩
end Go.Proofs.YtlhdofkgcbmnnaaGreatDoor

namespace Go.Proofs.YtlhdofkgcbmnnaaGreatDoor
open Go.RowKit Go.Proofs.Heap Go.Proofs.Sch Go.Proofs.Wide

/-- A row of formulas under way, of a type. -/
structure FmT (e : TypeId) (w : World) (B : Nat) (v : Value) (rs : List Fv) : Prop where
  own : w.ownsRow B e 1 v rs.length (rs.map fV)
  each : ∀ r ∈ rs, r.1.length ≤ r.2.2 ∧ SafeI w B v (fun w' => IP w' w'.heap.size r.2.1 r.1)
theorem FmT.keep {e : TypeId} {w w' : World} {B : Nat} {S : Nat → Prop} {v : Value} {rs : List Fv} (h : FmT e w B v rs) (hk : Keep S w w') (hS : ∀ j, B ≤ j → S j → False) : FmT e w' B v rs :=
  ⟨owns_keep h.own (fun j hj => hk.block j (h.own.lt j hj).2 (fun e => hS j (h.own.lt j hj).1 e)), fun r hr => ⟨(h.each r hr).1, (h.each r hr).2.keep hk (fun j h1 h2 => (hS j h1 h2).elim)⟩⟩
theorem FmT.ep {e : TypeId} {w : World} {B : Nat} {p : Option Addr} {n c : Nat} {rs : List Fv} (h : FmT e w B (.slice p n c) rs) (hn : n = rs.length) : EP w w.heap.size p (rs.map (·.1)) :=
  ep_own hn (by subst hn; exact h.own) (fun r hr => ⟨(h.each r hr).1, (h.each r hr).2.now⟩)
theorem FmT.ft {e : TypeId} {w : World} {B : Nat} {p : Option Addr} {n c : Nat} {rs : List Fv} (h : FmT e w B (.slice p n c) rs) (hn : n = rs.length) : Ft w B w.heap.size (fun w' => EP w' w'.heap.size p (rs.map (·.1))) := fun w' k =>
  ep_own hn (by subst hn; exact owns_ft h.own w' k) (fun r hr => ⟨(h.each r hr).1, by
    obtain ⟨lo, hi, h1, h2, h3, _⟩ := (h.each r hr).2
    exact h3 w' ⟨fun b hb1 hb2 => k.block b (by omega) (by omega), by have := k.size; omega⟩⟩)
theorem FmT.more {e : TypeId} {w1 w2 : World} {B : Nat} {v v' : Value} {rs : List Fv} {r : Fv} (h : FmT e w1 B v rs) (hc : r.1.length ≤ r.2.2) (hr : SafeI w1 B v (fun w' => IP w' w'.heap.size r.2.1 r.1))
    (hown : w2.ownsRow B e 1 v' (rs.length + 1) (rs.map fV ++ [fV r])) (hg : w1.grownBy w2 v.ownBlock) (hat : v'.ownBlock = v.ownBlock ∨ v'.ownBlock = some w1.heap.size) : FmT e w2 B v' (rs ++ [r]) := by
  refine ⟨by rw [List.length_append, List.map_append]; exact hown, fun s hs => ?_⟩
  rcases List.mem_append.1 hs with hs | hs
  · exact ⟨(h.each s hs).1, (h.each s hs).2.grow hg hat⟩
  · rw [List.mem_singleton.1 hs]
    exact ⟨hc, hr.grow hg hat⟩
theorem FmT.nil {e : TypeId} {w : World} {B : Nat} : FmT e w B (.slice none 0 0) [] := ⟨World.ownsRow_nil _ _ _ _, fun r hr => by simp at hr⟩
theorem FmT.from {e : TypeId} {w : World} {B B' : Nat} {v : Value} {rs : List Fv} (h : FmT e w B v rs) (hB : B' ≤ B) : FmT e w B' v rs :=
  ⟨owns_mono h.own hB, fun r hr => ⟨(h.each r hr).1, by
    obtain ⟨lo, hi, h1, h2⟩ := (h.each r hr).2
    exact ⟨lo, hi, by omega, h2⟩⟩⟩
/-- A row of rules under way, of a type. -/
structure RuT (e : TypeId) (w : World) (B : Nat) (v : Value) (rs : List Rv) : Prop where
  own : w.ownsRow B e 3 v rs.length (rs.flatMap rlcl)
  each : ∀ r ∈ rs, r.1.exprs.length ≤ r.2.2 ∧ SafeI w B v (fun w' => EP w' w'.heap.size r.2.1 r.1.exprs)
theorem RuT.keep {e : TypeId} {w w' : World} {B : Nat} {S : Nat → Prop} {v : Value} {rs : List Rv} (h : RuT e w B v rs) (hk : Keep S w w') (hS : ∀ j, B ≤ j → S j → False) : RuT e w' B v rs :=
  ⟨owns_keep h.own (fun j hj => hk.block j (h.own.lt j hj).2 (fun e => hS j (h.own.lt j hj).1 e)), fun r hr => ⟨(h.each r hr).1, (h.each r hr).2.keep hk (fun j h1 h2 => (hS j h1 h2).elim)⟩⟩
theorem RuT.up {e : TypeId} {w : World} {B : Nat} {p : Option Addr} {n c : Nat} {rs : List Rv} (h : RuT e w B (.slice p n c) rs) (hn : n = rs.length) : UP w w.heap.size p (rs.map (·.1)) :=
  up_own hn.symm (by subst hn; exact h.own) (fun r hr => ⟨(h.each r hr).1, (h.each r hr).2.now⟩)
theorem RuT.more {e : TypeId} {w1 w2 : World} {B : Nat} {v v' : Value} {rs : List Rv} {r : Rv} (h : RuT e w1 B v rs) (hc : r.1.exprs.length ≤ r.2.2) (hr : SafeI w1 B v (fun w' => EP w' w'.heap.size r.2.1 r.1.exprs))
    (hown : w2.ownsRow B e 3 v' (rs.length + 1) (rs.flatMap rlcl ++ rlcl r)) (hg : w1.grownBy w2 v.ownBlock) (hat : v'.ownBlock = v.ownBlock ∨ v'.ownBlock = some w1.heap.size) : RuT e w2 B v' (rs ++ [r]) := by
  refine ⟨by rw [List.length_append, List.flatMap_append]; simpa using hown, fun s hs => ?_⟩
  rcases List.mem_append.1 hs with hs | hs
  · exact ⟨(h.each s hs).1, (h.each s hs).2.grow hg hat⟩
  · rw [List.mem_singleton.1 hs]
    exact ⟨hc, hr.grow hg hat⟩
theorem RuT.nil {e : TypeId} {w : World} {B : Nat} : RuT e w B (.slice none 0 0) [] := ⟨World.ownsRow_nil _ _ _ _, fun r hr => by simp at hr⟩
end Go.Proofs.YtlhdofkgcbmnnaaGreatDoor

namespace Go.Proofs.YtlhdofkgcbmnnaaGreatDoor
open Go.RowKit Go.Proofs.Heap Go.Proofs.Sch Go.Proofs.Wide

def ruleRun (old : Cmp) : List Fld → List (List Ins) → Nat
  | f :: fs, c :: cs => if formC old f c = 0 then ruleRun old fs cs else formC old f c
  | _, _ => 0
/-- The error of a rule. -/
def ruleC (old new : Cmp) (r : Rul) : Nat := if r.old = 0 then 0 else if r.exprs.length = new.fs.length then ruleRun old new.fs r.exprs else 4

end Go.Proofs.YtlhdofkgcbmnnaaGreatDoor
