/- What is proved: the law of exact layouts answers true (its walk). -/
import Derived.Test.YtkgkcnmnfhehfaaLayAwake
import Derived.Test.YtkgkcnmnfhehfaaLayZero
import Derived.Test.YtkgkcnmnfhehfaaRef05b
namespace Go.Proofs.Ytkgkcnmnfhehfaa
open Go.RowKit Go.Proofs.Heap Go.Proofs.Sch Go.Proofs.Wide

theorem gr_of (p q : Option Addr) (n c m d : Nat) (w : World) : Calls Try.prog 9 #[.slice p n c, .slice q m d] w fun r w' => r = .returned (.bool (decide (12 < n) || decide (100 < m))) ∧ w = w' := by
  go_enter Try.func9, Try.ntmps9
  by_cases h1 : 12 < n
  · have g1 : decide ((12 : Int) < (n : Int)) = true := decide_eq_true (by omega)
    have G : Hid ((decide (12 < n) || decide (100 < m)) = true) := hid (by rw [decide_eq_true h1]; rfl)
    clear h1
    go_wp2
    go_ret
    exact ⟨by rw [G.out]; rfl, rfl⟩
  · have g1 : decide ((12 : Int) < (n : Int)) = false := decide_eq_false (by omega)
    by_cases h2 : 100 < m
    · have g2 : decide ((100 : Int) < (m : Int)) = true := decide_eq_true (by omega)
      have G : Hid ((decide (12 < n) || decide (100 < m)) = true) := hid (by rw [decide_eq_true h2]; simp)
      clear h1 h2
      go_wp2
      go_ret
      exact ⟨by rw [G.out]; rfl, rfl⟩
    · have g2 : decide ((100 : Int) < (m : Int)) = false := decide_eq_false (by omega)
      have G : Hid ((decide (12 < n) || decide (100 < m)) = false) := hid (by rw [decide_eq_false h1, decide_eq_false h2]; rfl)
      clear h1 h2
      go_wp2
      go_ret
      exact ⟨by rw [G.out]; rfl, rfl⟩
theorem r_lay' (fs : List Fld) (p : Option Addr) (cap : Nat) (w : World) (hf : FP w w.heap.size p fs) :
    Calls Try.prog 21 #[.slice p fs.length cap] w fun r w' => ∃ p5 c5 q7 d7, r = .returned (.tuple #[.slice p5 (elN fs) c5, iV (ofSize fs), .slice q7 (ofAt fs).length d7, iV (layC fs)]) ∧ w'.ownsRow w.heap.size 3 1 (.slice q7 (ofAt fs).length d7) (ofAt fs).length ((ofAt fs).map iV) ∧ Keep (fun _ => False) w w' := by
  refine (r_lay fs p cap w hf).mono ?_
  rintro r w' ⟨h | h, hk⟩
  · obtain ⟨h0, rfl⟩ := h
    have e1 : elN fs = 0 := by unfold elN; rw [if_neg h0]
    have e2 : ofSize fs = 0 := by unfold ofSize; rw [if_neg h0]
    have e3 : ofAt fs = [] := by unfold ofAt; rw [if_neg h0]
    rw [e1, e2, e3]
    exact ⟨none, 0, none, 0, rfl, World.ownsRow_nil _ _ _ _, hk⟩
  · obtain ⟨h0, p5, c5, q7, d7, rfl, hl⟩ := h
    have e1 : elN fs = (eRun fs).length := by unfold elN; rw [if_pos h0, eRun_len]
    have e2 : ofSize fs = pSize fs := by unfold ofSize; rw [if_pos h0]
    have e3 : ofAt fs = (pRun fs).2.2 := by unfold ofAt; rw [if_pos h0]
    rw [e1, e2, e3, h0]
    exact ⟨p5, c5, q7, d7, rfl, hl.o7, hk⟩

set_option maxRecDepth 20000 in
set_option maxHeartbeats 16000000 in
theorem layoutExact_walk (fs : List Fld) (p : Option Addr) (cap : Nat) (a : Int) (w : World) (hcap : fs.length ≤ cap) (hf : FP w w.heap.size p fs) :
    Calls Try.prog 6 #[.slice p fs.length cap, .int .i64 a] w fun r w' => r = .returned (.bool true) ∧ Below w.heap.size w w' := by
  have HF := hid hf; have HCP := hid hcap
  clear hf hcap
  go_enter Try.func6, Try.ntmps6
  go_wp2_with fail
  refine (awake_true _).mono ?_
  rintro r w1 ⟨rfl, hk1⟩
  have HK1 := hid hk1
  clear hk1
  go_wp2_with fail
  refine (gr_of _ _ _ _ _ _ _).mono ?_
  rintro r w_ ⟨rfl, rfl⟩
  rw [show decide (100 < 0) = false from rfl, Bool.or_false]
  by_cases hgr : 12 < fs.length
  · rw [decide_eq_true hgr]
    go_wp2
    go_ret
    exact ⟨rfl, HK1.out.below⟩
  rw [decide_eq_false hgr]
  clear hgr
  have HFP : Hid (∀ wy, Keep (fun _ => False) w wy → FP wy wy.heap.size p fs) := hid (fun wy hk => FP.mono (FP.low HF.out (Low.keep0 hk)) hk.size)
  go_wp2_with fail
  refine (r_lay' fs p cap _ (HFP.out _ HK1.out)).mono ?_
  rintro r w2 ⟨p5, c5, q7, d7, rfl, hown2, hk2⟩
  have HK2 := hid (HK1.out.trans hk2); have HO2 := hid hown2
  clear hk2 hown2
  go_wp2_with fail
  refine (lay_of fs p cap _ (HFP.out _ HK2.out)).mono ?_
  rintro r w3 ⟨pa, pc, rfl, hown3, hk3⟩
  obtain ⟨w4, hw4, hb4, hs4, hk4⟩ := box1 w3 #[.int .i64 (ofSize fs : Int), .slice pa (ofAt fs).length pc] 45
  have HK4 := hid ((HK2.out.trans hk3).trans hk4)
  have HO4 := hid (owns_keep (w' := w4) HO2.out (fun k hk => (hk3.trans hk4).block k (HO2.out.lt k hk).2 id))
  have HA4 := hid (owns_keep (w' := w4) hown3 (fun k hk => hk4.block k (hown3.lt k hk).2 id))
  have HB4 := hid hb4
  clear hown3 hk3 hk4 hb4 hs4
  go_upto_region 7 with fail
  rw [← hw4]
  clear hw4
  generalize w3.heap.size = pb at *
  have HBC : Hid (∀ wy, Keep (fun _ => False) w4 wy → wy.cell? ⟨pb, 0, none⟩ = some (.int .i64 (ofSize fs : Int)) ∧ wy.cell? ⟨pb, 1, none⟩ = some (.slice pa (ofAt fs).length pc)) := hid (fun wy hk =>
    ⟨cell_of (hk.get HB4.out id) (by rfl), cell_of (hk.get HB4.out id) (by rfl)⟩)
  have HCK := hid (fun wy (h : Keep (fun _ => False) w wy) => layout_check fs p cap wy (HFP.out wy h))
  have HZR := hid (fun wy (h : Keep (fun _ => False) w wy) => lay_zero fs p cap wy HCP.out (HFP.out wy h))
  have HEL := hid (fun wy (h : Keep (fun _ => False) w wy) => elems_any fs p cap wy HCP.out (HFP.out wy h))
  have HST := hid (fun wy (h : Keep (fun _ => False) w wy) => start_any fs p cap a wy HCP.out (HFP.out wy h))
  have HSN : Hid (stN fs a = if layC fs = 0 ∧ 0 ≤ a ∧ a < fs.length then sumN (fs.take a.toNat) else 0) := hid rfl
  have HOKF := hid (fun h : layC fs = 0 => layC_zero h)
  have HE64 := hid (elN_le fs)
  have HLA : Hid ((ofAt fs).length ≤ 12) := hid (by
    unfold ofAt
    split
    · rename_i h
      have h1 := at_len fs fs.length (Nat.le_refl _)
      rw [List.take_length] at h1
      have := (layC_zero h).1
      omega
    · simp)
  generalize ofSize fs = os at *
  generalize elN fs = en at *
  generalize hla : (ofAt fs).length = la at *
  have HLL := hid hla
  clear hla
  obtain ⟨lc, hlc⟩ : ∃ lc, layC fs = lc := ⟨_, rfl⟩
  rw [hlc] at HCK HSN HOKF ⊢
  clear hlc
  obtain ⟨d0, d1⟩ := HBC.out _ (Keep.refl _ _)
  go_wp2_with fail
  refine (HCK.out _ HK4.out).mono ?_
  rintro r w5 ⟨rfl, hk5⟩
  have HK5 := hid hk5
  clear hk5 d0 d1
  obtain ⟨d0, d1⟩ := HBC.out _ HK5.out
  go_wp2_with fail
  clear d0 d1
  go_loopw [11] (fun i wr => ∃ k : Nat, k ≤ la ∧ i = iV k ∧ Keep (fun _ => False) w4 wr) (fun i _ => la + 1 - (RowKit.intOf i).toNat)
  case atStart => exact ⟨0, Nat.zero_le _, rfl, HK5.out⟩
  case round =>
    obtain ⟨k, hk, rfl, hkr⟩ := hrel
    have HKR := hid hkr
    clear hkr
    have hla12 := HLA.out
    by_cases hlt : k < la
    · have g1 : decide ((k : Int) < (la : Int)) = true := decide_eq_true (by omega)
      have g1' : decide (k < la) = true := decide_eq_true hlt
      have hin : (0 : Int) ≤ (k : Int) ∧ (k : Int) < (la : Int) := ⟨by omega, by omega⟩
      obtain ⟨ga, rfl⟩ := owns_some HA4.out (by omega)
      obtain ⟨gb, rfl⟩ := owns_some HO4.out (by omega)
      obtain ⟨x, hx⟩ : ∃ x, (ofAt fs)[k]? = some x := ⟨(ofAt fs)[k]'(by rw [HLL.out]; exact hlt), by simp [HLL.out, hlt]⟩
      have hx' : ((ofAt fs).map iV)[k]? = some (iV x) := by rw [List.getElem?_map, hx]; rfl
      have h1 : wr.drew.cell? ⟨ga, k, none⟩ = some (.int .i64 (x : Int)) := by
        rw [owns_cell (k := k) (owns_keep (w' := wr.drew) HA4.out (fun j hj => HKR.out.block j (HA4.out.lt j hj).2 id)) hlt]; exact hx'
      have h2 : wr.drew.cell? ⟨gb, k, none⟩ = some (.int .i64 (x : Int)) := by
        rw [owns_cell (k := k) (owns_keep (w' := wr.drew) HO4.out (fun j hj => HKR.out.block j (HO4.out.lt j hj).2 id)) hlt]; exact hx'
      have h3 := (HBC.out _ HKR.out.drew).2
      clear hx hx'
      go_upto_region 12 with fail
      refine Plan.wp_region_reads (by as_aux_lemma => kernel_rfl) (by as_aux_lemma => kernel_rfl) ?_
      repeat (go_big_quiet_step (fail))
      refine wpQuiet_nil ?_
      clear h1 h2 h3
      go_wp2
      go_roundw
      case rel => exact ⟨k + 1, by omega, by go_num, HKR.out.drew⟩
      case measure => simp [RowKit.intOf]; omega
    · obtain rfl : k = la := by omega
      clear hla12
      obtain ⟨B, hB⟩ : ∃ B, decide (lc = 0 ∧ 0 ≤ a ∧ a < fs.length) = B := ⟨_, rfl⟩
      go_upto_region 15 with fail
      go_cut [82] from 71 to 82 (fun c wx => c = .bool B ∧ wr = wx)
      case first =>
        by_cases h1 : lc = 0
        · have g1 : ((lc : Int) == 0) = true := beq_iff_eq.2 (by omega)
          have g1' : (lc == 0) = true := beq_iff_eq.2 h1
          by_cases h2 : 0 ≤ a
          · have g2 : decide (0 ≤ a) = true := decide_eq_true h2
            by_cases h3 : a < fs.length
            · have g3 : decide (a < (fs.length : Int)) = true := decide_eq_true h3
              have hb : B = true := by rw [← hB]; exact decide_eq_true ⟨h1, h2, h3⟩
              subst hb
              clear hB h1 h2 h3
              go_wp2
              go_meet
              case rel => exact ⟨rfl, rfl⟩
            · have g3 : decide (a < (fs.length : Int)) = false := decide_eq_false h3
              have hb : B = false := by rw [← hB]; exact decide_eq_false (fun h => h3 h.2.2)
              subst hb
              clear hB h1 h2 h3
              go_wp2
              go_meet
              case rel => exact ⟨rfl, rfl⟩
          · have g2 : decide (0 ≤ a) = false := decide_eq_false h2
            have hb : B = false := by rw [← hB]; exact decide_eq_false (fun h => h2 h.2.1)
            subst hb
            clear hB h1 h2
            go_wp2
            go_meet
            case rel => exact ⟨rfl, rfl⟩
        · have g1 : ((lc : Int) == 0) = false := beq_eq_false_iff_ne.2 (by omega)
          have g1' : (lc == 0) = false := beq_eq_false_iff_ne.2 h1
          have hb : B = false := by rw [← hB]; exact decide_eq_false (fun h => h1 h.1)
          subst hb
          clear hB h1
          go_wp2
          go_meet
          case rel => exact ⟨rfl, rfl⟩
      case rest =>
      obtain ⟨rfl, rfl⟩ := hcut
      go_upto_if 82 with fail
      go_cut [12, 13] from 82 to 94 (fun x _ wx => x = iV (stN fs a) ∧ Keep (fun _ => False) w4 wx)
      case first =>
        cases B
        · have G : Hid (stN fs a = 0) := hid (by rw [HSN.out, if_neg (of_decide_eq_false hB)])
          clear hB
          go_wp2
          go_meet
          case rel => exact ⟨by rw [G.out]; rfl, HKR.out⟩
        · obtain ⟨h1, h2, h3⟩ := of_decide_eq_true hB
          obtain ⟨an, rfl⟩ := Int.eq_ofNat_of_zero_le h2
          have hok := HOKF.out h1
          have HOK := hid hok.2
          have G : Hid (stN fs (an : Int) = sumN (fs.take an)) := hid (by rw [HSN.out, if_pos ⟨h1, h2, h3⟩, Int.toNat_natCast])
          have han : an < fs.length := by omega
          have hl8 := hok.1
          clear hB h1 h2 h3 hok
          have HKR' := HKR
          go_wp2_with fail
          go_loopw [12, 13] (fun x i wy => ∃ k : Nat, k ≤ an ∧ i = iV k ∧ x = iV (sumN (fs.take k)) ∧ Keep (fun _ => False) w4 wy ∧ sumN (fs.take k) ≤ 8 * k) (fun _ i _ => an + 1 - (RowKit.intOf i).toNat)
          case atStart => exact ⟨0, Nat.zero_le _, rfl, rfl, HKR.out, by simp [sumN]⟩
          case round =>
            obtain ⟨j, hj, rfl, rfl, hkj, hle⟩ := hrel
            have HKJ := hid hkj
            clear hkj
            by_cases hlt2 : j < an
            · obtain ⟨f, hfk⟩ : ∃ f, fs[j]? = some f := ⟨fs[j]'(by omega), by simp [show j < fs.length by omega]⟩
              have hof := (HOK.out f (List.mem_of_getElem? hfk)).2
              obtain ⟨b, off, rfl, hb, c0, c1, c2⟩ := FP.at (FP.low HF.out (Low.keep0 (HK4.out.trans HKJ.out))) hfk
              have hin : (0 : Int) ≤ (j : Int) ∧ (j : Int) < (fs.length : Int) := ⟨by omega, by omega⟩
              have hsn := sumN_next hfk
              have HSN2 := hid hsn
              clear hfk hsn
              obtain ⟨nm, kd, ct⟩ := f
              obtain ⟨cn, rfl⟩ := Int.eq_ofNat_of_zero_le (a := ct) (by have := hof.1; simp only at this; omega)
              simp only at c0 c1 c2 hof
              have hcn : cn ≤ 8 := by omega
              generalize sumN (fs.take j) = sm at *
              go_wp2
              go_roundw
              case rel => exact ⟨j + 1, by omega, by go_num, by rw [HSN2.out]; simp, HKJ.out, by rw [HSN2.out]; simp; omega⟩
              case measure => simp [RowKit.intOf]; omega
            · obtain rfl : j = an := by omega
              go_wp2
              go_meet
              case rel => exact ⟨by rw [G.out], HKJ.out⟩
      case rest =>
      obtain ⟨rfl, hkc⟩ := hcut
      have HKC := hid (HK4.out.trans hkc)
      clear hkc
      clear HSN HOKF
      generalize stN fs a = sn at *
      go_wp2_with fail
      refine (HZR.out _ HKC.out).mono ?_
      rintro r w6 ⟨za, zc, rfl, hxz, hk6⟩
      have HK6 := hid (HKC.out.trans hk6); have HXZ := hid hxz
      clear hxz hk6
      go_wp2_with fail
      go_loopw [15] (fun i wy => ∃ j : Nat, j ≤ en ∧ i = iV j ∧ w6 = wy) (fun i _ => en + 1 - (RowKit.intOf i).toNat)
      case atStart => exact ⟨0, Nat.zero_le _, rfl, rfl⟩
      case round =>
        obtain ⟨j, hj, rfl, rfl⟩ := hrel
        have he64 := HE64.out
        by_cases hlt2 : j < en
        · obtain ⟨zb, zo, rfl, hzb, z0, z1, z2⟩ := XP.at HXZ.out (i := j) (f := ⟨false, 0, 0⟩) (by rw [List.getElem?_replicate, if_pos hlt2])
          have hin : (0 : Int) ≤ (j : Int) ∧ (j : Int) < (en : Int) := ⟨by omega, by omega⟩
          go_wp2
          go_roundw
          case rel => exact ⟨j + 1, by omega, by go_num, by first | rfl | trivial⟩
          case measure => simp [RowKit.intOf]; omega
        · obtain rfl : j = en := by omega
          go_wp2_with fail
          refine (HEL.out _ HK6.out).mono ?_
          rintro r w7 ⟨rfl, hk7⟩
          have HK7 := hid (HK6.out.trans hk7)
          clear hk7
          go_wp2_with fail
          refine (HST.out _ HK7.out).mono ?_
          rintro r w8 ⟨rfl, hk8⟩
          have HK8 := hid (HK7.out.trans hk8)
          clear hk8
          go_wp2
          go_ret
          exact ⟨rfl, HK8.out.below⟩
end Go.Proofs.Ytkgkcnmnfhehfaa
