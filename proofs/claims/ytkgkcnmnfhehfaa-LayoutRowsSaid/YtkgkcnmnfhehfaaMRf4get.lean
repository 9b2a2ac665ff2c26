/- What is proved: what the reference's Get of bytes answers: the number, or that there is none. -/
import Derived.Test.YtkgkcnmnfhehfaaMRef05b
import Derived.Deep.Cut
import Derived.Deep.CutRange
import Derived.Deep.CutBlock
import Derived.Test.YtkgkcnmnfhehfaaMMapStr
import Derived.Test.YtkgkcnmnfhehfaaMHeap
import Derived.Test.YtkgkcnmnfhehfaaMRegion
namespace Go.Proofs.Ytkgkcnmnfhehfaa
open Go.RowKit Go.Proofs.Heap Go.Proofs.Sch Go.Proofs.Wide

theorem leN_app : ∀ (l r : List UInt8), leN (l ++ r) = leN l + 256 ^ l.length * leN r
  | [], r => by simp [leN]
  | b :: l, r => by
    rw [List.cons_append, leN, leN_app l r, leN, List.length_cons, Nat.pow_succ, Nat.mul_add, Nat.add_assoc, ← Nat.mul_assoc, Nat.mul_comm 256 (256 ^ l.length)]
theorem firstN_all {s : ByteArray} {n : Nat} (h : s.size = n) : firstN s n = leN s.data.toList := by
  unfold firstN
  rw [List.take_of_length_le (by rw [Array.length_toList]; exact Nat.le_of_eq h)]
/-- The highest bit tells a number below nought. -/
theorem sign_bit {k : Int} {s : ByteArray} (hs : s.size = szN k) (hk : signK k = true) {b : UInt8} (hb : s.data.toList[szN k - 1]? = some b) : 127 < b.toNat ↔ greatN k < firstN s (szN k) := by
  have hl : s.data.toList.length = szN k := by rw [Array.length_toList]; exact hs
  rw [firstN_all hs]
  have h1 : s.data.toList = s.data.toList.take (szN k - 1) ++ [b] := by
    have h := take_next hb
    have hz : szN k - 1 + 1 = szN k := by have := (List.getElem?_eq_some_iff.1 hb).1; omega
    rw [hz, List.take_of_length_le (by omega)] at h
    exact h
  have h2 : (s.data.toList.take (szN k - 1)).length = szN k - 1 := by rw [List.length_take]; omega
  have h3 := leN_lt (s.data.toList.take (szN k - 1))
  rw [h1, leN_app]
  rw [h2] at h3 ⊢
  have h4 : leN [b] = b.toNat := by simp [leN]
  rw [h4]
  generalize leN (s.data.toList.take (szN k - 1)) = m at *
  clear h1 h2 h4 hl hb hs
  have := of_decide_eq_true hk
  have hk4 : k = 2 ∨ k = 3 ∨ k = 4 ∨ k = 5 := by omega
  rcases hk4 with rfl | rfl | rfl | rfl
  · have h3' : m < 1 := h3
    show 127 < b.toNat ↔ 127 < m + 1 * b.toNat
    omega
  · have h3' : m < 256 := h3
    show 127 < b.toNat ↔ 32767 < m + 256 * b.toNat
    omega
  · have h3' : m < 16777216 := h3
    show 127 < b.toNat ↔ 2147483647 < m + 16777216 * b.toNat
    omega
  · have h3' : m < 72057594037927936 := h3
    show 127 < b.toNat ↔ 9223372036854775807 < m + 72057594037927936 * b.toNat
    omega
theorem cmp_ge {a b : Int} (h : b ≤ a) : 0 ≤ cmpI a b := by
  unfold cmpI
  split
  · omega
  · rw [if_pos (by omega)]; omega
theorem cmp_le {a b : Int} (h : a ≤ b) : cmpI a b ≤ 0 := by
  unfold cmpI
  rw [if_neg (by omega)]
  split <;> omega
theorem fits_of {k : Int} {x : WI} (hk : kindB k = true) (hf : x.form = true) (h1 : (leastW k).val ≤ x.val) (h2 : x.val ≤ (greatN k : Int)) : fitsB k x = true := by
  unfold fitsB
  have hg : (greatW k).val = (greatN k : Int) := by simp [greatW, WI.val, WI.mag]
  rw [hk, hf, Bool.true_and, Bool.true_and, Bool.and_eq_true]
  refine ⟨decide_eq_true ?_, decide_eq_true ?_⟩
  · unfold cmpW; rw [if_pos ⟨hf, leastW_form k⟩]; exact cmp_ge h1
  · unfold cmpW; rw [if_pos ⟨hf, greatW_form k⟩]; exact cmp_le (by rw [hg]; exact h2)
theorem least_uns {k : Int} (h : signK k = false) : (leastW k).val = 0 := by unfold leastW; rw [h]; simp [WI.val, WI.mag]
theorem least_sgn {k : Int} (h : signK k = true) : (leastW k).val = -((greatN k + 1 : Nat) : Int) := by unfold leastW; rw [h]; simp [WI.val, WI.mag]
theorem great_uns {k : Int} (hk : kindB k = true) (hs : signK k = false) (h1 : k ≠ 1) : greatN k + 1 = 256 ^ szN k := by
  rcases kind_cases hk with rfl | rfl | rfl | rfl | rfl | rfl | rfl | rfl | rfl | rfl
  · exact absurd rfl h1
  · exact absurd hs (by decide)
  · exact absurd hs (by decide)
  · exact absurd hs (by decide)
  · exact absurd hs (by decide)
  all_goals decide +kernel
theorem great_sgn {k : Int} (hs : signK k = true) : 256 ^ szN k = (greatN k + 1) + (greatN k + 1) := by
  have := of_decide_eq_true hs
  have hk4 : k = 2 ∨ k = 3 ∨ k = 4 ∨ k = 5 := by omega
  rcases hk4 with rfl | rfl | rfl | rfl <;> decide +kernel
/-- Which bytes are a number. -/
theorem get_fits {k : Int} (hk : kindB k = true) (s : ByteArray) : fitsB k (getV k s) = !(decide (k = 1) && decide (1 < firstN s (szN k))) := by
  have hlt := firstN_lt s (szN k)
  cases hs : signK k
  · have hv : getV k s = ⟨false, 0, firstN s (szN k)⟩ := by unfold getV; rw [hs, if_neg (fun h => by cases h.1)]
    rw [hv]
    have hval : (WI.mk false 0 (firstN s (szN k))).val = (firstN s (szN k) : Int) := by simp [WI.val, WI.mag]
    by_cases h1 : k = 1
    · by_cases h2 : 1 < firstN s (szN k)
      · rw [decide_eq_true h1, decide_eq_true h2]
        cases hf : fitsB k ⟨false, 0, firstN s (szN k)⟩
        · rfl
        · have h3 := (fits_pos hf rfl).2
          simp only at h3
          have h4 : greatN k = 1 := by rw [h1]; rfl
          omega
      · rw [decide_eq_false h2, Bool.and_false]
        refine fits_of hk (pos_form _) ?_ ?_
        · rw [least_uns hs, hval]; omega
        · have h4 : greatN k = 1 := by rw [h1]; rfl
          rw [hval, h4]; omega
    · rw [decide_eq_false h1, Bool.false_and]
      have h3 := great_uns hk hs h1
      refine fits_of hk (pos_form _) ?_ ?_
      · rw [least_uns hs, hval]; omega
      · rw [hval]; omega
  · have h1 : k ≠ 1 := by rintro rfl; exact absurd hs (by decide)
    rw [decide_eq_false h1, Bool.false_and]
    have h3 := great_sgn hs
    unfold getV
    by_cases h : greatN k < firstN s (szN k)
    · rw [if_pos ⟨hs, h⟩]
      have hval : (WI.mk true 0 (256 ^ szN k - firstN s (szN k))).val = -((256 ^ szN k - firstN s (szN k) : Nat) : Int) := by simp [WI.val, WI.mag]
      refine fits_of hk ?_ ?_ ?_
      · unfold WI.form WI.mag
        simp only [Nat.zero_mul, Nat.zero_add, Bool.not_true, Bool.false_or, Bool.and_eq_true]
        exact ⟨decide_eq_true (by omega : (0 : Nat) < 9223372036854775808), decide_eq_true (by omega)⟩
      · rw [least_sgn hs, hval]; omega
      · rw [hval]; omega
    · rw [if_neg (fun hh => h hh.2)]
      have hval : (WI.mk false 0 (firstN s (szN k))).val = (firstN s (szN k) : Int) := by simp [WI.val, WI.mag]
      refine fits_of hk (pos_form _) ?_ ?_
      · rw [least_sgn hs, hval]; omega
      · rw [hval]; omega

set_option maxRecDepth 20000 in
set_option maxHeartbeats 8000000 in
theorem r_get (k : Int) (hkd : kindB k = true) (s : ByteArray) (hs : s.size = szN k) (w : World) (hz1 : 1 ≤ szN k) : Calls Try.prog 38 #[.int .i64 k, .string s] w fun r w' =>
    r = .returned (.tuple #[WV (if fitsB k (getV k s) = true then getV k s else ⟨false, 0, 0⟩), .bool (fitsB k (getV k s))]) ∧ Keep (fun _ => False) w w' := by
  have HFT := hid (get_fits hkd s)
  have HSG := hid (fun h b hb => sign_bit (b := b) hs h hb)
  have HZ8 := hid (sz_le k)
  have HGV : Hid (getV k s = if signK k = true ∧ greatN k < firstN s (szN k) then ⟨true, 0, 256 ^ szN k - firstN s (szN k)⟩ else ⟨false, 0, firstN s (szN k)⟩) := hid rfl
  have hfl := firstN_lt s (szN k)
  have hfa := firstN_all hs
  have hk10 : 1 ≤ k ∧ k ≤ 10 := of_decide_eq_true hkd
  have HSC := hid (sz_cast k)
  have hsd : s.data.toList.length = szN k := by rw [Array.length_toList]; exact hs
  have HSD := hid hsd
  generalize hz : szN k = z at *
  generalize hn : firstN s z = n at *
  generalize hR : getV k s = R at *
  generalize hF : fitsB k R = F at *
  have HFL := hid hfl; have HFA := hid hfa; have HK10 := hid hk10; have HZ := hid hz; have HS := hid hs
  have hz8 := HZ8.out
  clear hfl hfa hk10 hn hz hkd hsd hR hF
  go_enter Try.func38, Try.ntmps38
  obtain ⟨w1, hw1, hb1, hs1, hk1⟩ := box1 w Z3 57
  have HB1 := hid hb1; have HK1 := hid hk1
  clear hb1 hs1 hk1
  go_upto_region 1 with fail
  rw [← hw1]
  clear hw1
  generalize hrb : w.heap.size = rb at *
  have HRB : Hid (w.heap.size ≤ rb) := hid (Nat.le_of_eq hrb)
  clear hrb
  go_wp2_with fail
  refine (r_bytes k _).mono ?_
  rintro r w2 ⟨rfl, hk2⟩
  have HK2 := hid (HK1.out.trans hk2); have HB2 := hid (hk2.get HB1.out id)
  clear hk2
  rw [HSC.out]
  have g1 : ((s.size : Int) != (z : Int)) = false := by rw [hs]; simp
  have g2 : (s.size != z) = false := by rw [hs]; simp
  have g3 : ((s.size : Int) == 0) = false := beq_eq_false_iff_ne.2 (by omega)
  have g4 : (s.size == 0) = false := beq_eq_false_iff_ne.2 (by omega)
  go_wp2_with fail
  clear g1 g2 g3 g4
  go_loopw [6, 7] (fun m i wr => ∃ j : Nat, j ≤ z ∧ i = .int .i64 ((j : Int) - 1) ∧ m = .int .u64 (leN (s.data.toList.drop j) : Int) ∧ w2 = wr) (fun _ i _ => ((intOf i) + 1).toNat)
  case atStart => exact ⟨z, Nat.le_refl _, rfl, by rw [List.drop_of_length_le (Nat.le_of_eq HSD.out)]; rfl, rfl⟩
  case round =>
    obtain ⟨j', hj, rfl, rfl, rfl⟩ := hrel
    by_cases hj0 : j' = 0
    rotate_left
    · obtain ⟨j, rfl⟩ : ∃ j, j' = j + 1 := ⟨j' - 1, by omega⟩
      have e1 : (((j + 1 : Nat) : Int) - 1) = (j : Int) := by omega
      rw [e1]
      have hjs : j < s.size := by omega
      have g1 : decide ((0 : Int) ≤ (j : Int)) = true := decide_eq_true (by omega)
      have hlm : leN (s.data.toList.drop (j + 1)) < 72057594037927936 := by
        have h1 := leN_lt (s.data.toList.drop (j + 1))
        have h2 : (s.data.toList.drop (j + 1)).length ≤ 7 := by rw [List.length_drop, HSD.out]; omega
        exact Nat.lt_of_lt_of_le h1 (pow_le h2)
      have hst : leN (s.data.toList.drop j) = (s[j]'hjs).toNat + 256 * leN (s.data.toList.drop (j + 1)) := by
        have h1 : s.data.toList[j]? = some (s[j]'hjs) := by
          rw [Array.getElem?_toList]
          exact Array.getElem?_eq_getElem hjs
        rw [drop_next h1, leN]
      obtain ⟨bt, hbt⟩ : ∃ bt, (s[j]'hjs).toNat = bt := ⟨_, rfl⟩
      have hb256 : bt < 256 := by rw [← hbt]; exact (s[j]'hjs).toNat_lt
      rw [hbt] at hst
      have HST := hid hst
      clear hst
      generalize leN (s.data.toList.drop (j + 1)) = m at *
      have hwb : IntKind.u64.wrap (bt : Int) = (bt : Int) := wraps64 _ (by omega) (by omega)
      have hw1 : IntKind.u64.wrap ((m : Int) * 256) = (m : Int) * 256 := wraps64 _ (by omega) (by omega)
      have hw2 : IntKind.u64.wrap ((m : Int) * 256 + (bt : Int)) = (m : Int) * 256 + (bt : Int) := wraps64 _ (by omega) (by omega)
      have hin : (0 : Int) ≤ (j : Int) ∧ (j : Int) < (s.size : Int) := ⟨by omega, by omega⟩
      go_wp2
      go_roundw
      case rel => exact ⟨j, by omega, by go_num, by rw [HST.out]; congr 1; omega, by first | rfl | trivial⟩
      case measure => simp [intOf]
    subst hj0
    have g1 : decide ((0 : Int) ≤ -1) = false := by decide
    rw [List.drop_zero, ← HFA.out, show (((0 : Nat) : Int) - 1) = (-1 : Int) from rfl]
    obtain ⟨w3, hw3, hb3, hs3, hk3⟩ := box1 w2 #[.bool false, .int .u64 0, .int .u64 (n : Int)] 57
    have HB3 := hid hb3; have HK3 := hid (HK2.out.trans hk3); have HR3 := hid (hk3.get HB2.out id)
    have HNE : Hid (rb < w2.heap.size) := hid (lt_of_heap HB2.out)
    clear hb3 hs3 hk3
    go_upto_region 9 with fail
    rw [← hw3]
    clear hw3 g1
    generalize w2.heap.size = xb at *
    obtain ⟨b, hb⟩ : ∃ b, s.data.toList[z - 1]? = some b := ⟨s.data.toList[z - 1]'(by rw [HSD.out]; omega), by rw [List.getElem?_eq_getElem]⟩
    have HB := hid hb
    have hjs : z - 1 < s.size := by omega
    have hbt : s[z - 1]'hjs = b := by
      have h1 : s.data.toList[z - 1]? = some (s[z - 1]'hjs) := by
        rw [Array.getElem?_toList]
        exact Array.getElem?_eq_getElem hjs
      rw [hb] at h1
      injection h1 with h1
      exact h1.symm
    have HSB : Hid (signK k = true → (127 < b.toNat ↔ greatN k < n)) := hid (fun h => HSG.out h b HB.out)
    have hin : (0 : Int) ≤ (z : Int) - 1 ∧ (z : Int) - 1 < (s.size : Int) := ⟨by omega, by omega⟩
    have hto : ((z : Int) - 1).toNat = z - 1 := by omega
    clear hb
    obtain ⟨q, hq⟩ : ∃ q : Bool, (signK k && decide (127 < b.toNat)) = q := ⟨_, rfl⟩
    have HQ := hid hq
    go_cut [51] from 11 to 51 (fun v wx => v = .bool q ∧ w3 = wx)
    case first =>
      by_cases c1 : 2 ≤ k
      · have g1 : decide (2 ≤ k) = true := decide_eq_true c1
        by_cases c2 : k ≤ 5
        · have g2 : decide (k ≤ 5) = true := decide_eq_true c2
          go_wp2
          go_meet
          case rel =>
            have hsk : signK k = true := by unfold signK; exact decide_eq_true ⟨c1, c2⟩
            rw [← HQ.out, hsk, Bool.true_and]
            exact ⟨by congr 1; exact decide_eq_decide.2 (by omega), rfl⟩
        · have g2 : decide (k ≤ 5) = false := decide_eq_false c2
          go_wp2
          go_meet
          case rel =>
            have hsk : signK k = false := by unfold signK; exact decide_eq_false (fun h => by omega)
            rw [← HQ.out, hsk]
            exact ⟨rfl, rfl⟩
      · have g1 : decide (2 ≤ k) = false := decide_eq_false c1
        go_wp2
        go_meet
        case rel =>
          have hsk : signK k = false := by unfold signK; exact decide_eq_false (fun h => by omega)
          rw [← HQ.out, hsk]
          exact ⟨rfl, rfl⟩
    case rest =>
    obtain ⟨rfl, rfl⟩ := hcut
    have HV : Hid (R = if q = true then ⟨true, 0, 256 ^ z - n⟩ else ⟨false, 0, n⟩) := hid (by
      rw [HGV.out, ← HQ.out]
      cases hsk : signK k
      · rw [if_neg (fun h => by cases h.1)]; rfl
      · have h2 := HSB.out hsk
        by_cases h3 : greatN k < n
        · rw [if_pos ⟨rfl, h3⟩, if_pos (by rw [Bool.true_and]; exact decide_eq_true (h2.2 h3))]
        · rw [if_neg (fun h => h3 h.2), if_neg (fun h => h3 (h2.1 (of_decide_eq_true (by rw [Bool.true_and] at h; exact h))))])
    have HQ1 : Hid (q = true → 1 ≤ n) := hid (fun h => by
      rw [← HQ.out, Bool.and_eq_true] at h
      have h2 := (HSB.out h.1).1 (of_decide_eq_true h.2)
      omega)
    clear hq HQ hto hin hbt
    go_upto_if 51 with fail
    go_cut [9, 10] from 11 to 66 (fun _ _ wx => wx.heap[rb]? = some (.cells Z3 57 (0, 0)) ∧ wx.heap[xb]? = some (.cells (WC R) 57 (0, 0)) ∧ Keep (fun _ => False) w wx)
    case first =>
      cases q
      · have hrv : R = ⟨false, 0, n⟩ := by rw [HV.out]; rfl
        go_wp2
        go_meet
        case rel => exact ⟨HR3.out, by rw [hrv]; exact HB3.out, HK3.out⟩
      · have hrv : R = ⟨true, 0, 256 ^ z - n⟩ := by rw [HV.out]; rfl
        have HRV := hid hrv
        have HN1 := hid (HQ1.out rfl)
        clear hrv
        have c0 : w3.cell? ⟨xb, 0, none⟩ = some (.bool false) := cell_of HB3.out (by rfl)
        have c1 : w3.cell? ⟨xb, 1, none⟩ = some (.int .u64 0) := cell_of HB3.out (by rfl)
        have c2 : w3.cell? ⟨xb, 2, none⟩ = some (.int .u64 (n : Int)) := cell_of HB3.out (by rfl)
        have f0 : w3.frozen? ⟨xb, 0, none⟩ = false := free_of HB3.out 0
        have f1 : w3.frozen? ⟨xb, 1, none⟩ = false := free_of HB3.out 1
        have f2 : w3.frozen? ⟨xb, 2, none⟩ = false := free_of HB3.out 2
        by_cases hz7 : z < 8
        · have g1 : decide ((s.size : Int) < 8) = true := decide_eq_true (by omega)
          have g2 : decide (s.size < 8) = true := decide_eq_true (by omega)
          have g3 : decide ((z : Int) < 8) = true := decide_eq_true (by omega)
          have g4 : decide (z < 8) = true := decide_eq_true (by omega)
          go_wp2_with fail
          clear g1 g2 g3 g4
          go_loopw [9, 10] (fun t i wr => ∃ j : Nat, j ≤ z ∧ i = iV j ∧ t = .int .u64 ((256 ^ j : Nat) : Int) ∧ w3 = wr) (fun _ i _ => z + 1 - (intOf i).toNat)
          case atStart => exact ⟨0, Nat.zero_le _, rfl, rfl, rfl⟩
          case round =>
            obtain ⟨j, hj, rfl, rfl, rfl⟩ := hrel
            by_cases hlt : j < z
            · have hp1 : 256 ^ (j + 1) ≤ 256 ^ 7 := pow_le (by omega)
              have hp2 : (256 : Nat) ^ 7 = 72057594037927936 := by decide
              have hp3 : 256 ^ (j + 1) = 256 ^ j * 256 := Nat.pow_succ ..
              generalize hP : 256 ^ j = P at *
              have hwm : IntKind.u64.wrap ((P : Int) * 256) = (P : Int) * 256 := wraps64 _ (by omega) (by omega)
              have g1 : decide ((j : Int) < (z : Int)) = true := decide_eq_true (by omega)
              have g2 : decide (j < z) = true := decide_eq_true hlt
              have HP3 := hid hp3
              clear hp1 hp2 hp3
              go_wp2
              go_roundw
              case rel => exact ⟨j + 1, by omega, by go_num, by rw [HP3.out]; go_num, by first | rfl | trivial⟩
              case measure => simp [intOf]; omega
            · obtain rfl : j = z := by omega
              have g1 : decide ((j : Int) < (j : Int)) = false := decide_eq_false (by omega)
              have g2 : decide (j < j) = false := decide_eq_false (by omega)
              have hfl := HFL.out
              have hp1 : 256 ^ j ≤ 256 ^ 7 := pow_le (by omega)
              have hp2 : (256 : Nat) ^ 7 = 72057594037927936 := by decide
              generalize hP : 256 ^ j = P at *
              have hwm : IntKind.u64.wrap ((P : Int) - (n : Int)) = ((P - n : Nat) : Int) := by rw [wraps64 _ (by omega) (by omega)]; omega
              clear hp1 hp2
              go_wp2
              go_meet
              case rel =>
                rw [HRV.out]
                have hne : rb ≠ xb := by have := HNE.out; omega
                have a2 := hsc_same (hsc_same (hsc_same HB3.out 0 (.bool true)) 1 (.int .u64 0)) 2 (.int .u64 ((P - n : Nat) : Int))
                refine ⟨?_, (by show _ = some (Obj.cells #[.bool true, .int .u64 ((0 : Nat) : Int), .int .u64 ((P - n : Nat) : Int)] _ (0, 0)); simpa using a2), ?_⟩
                · rw [hsc_ne _ hne, hsc_ne _ hne, hsc_ne _ hne]; exact HR3.out
                · have hx : w.heap.size ≤ xb := by have := HRB.out; have := HNE.out; omega
                  exact ((HK3.out.setCell_new hx _).setCell_new hx _).setCell_new hx _
        · obtain rfl : z = 8 := by omega
          have hfl := HFL.out
          have hp8 : (256 : Nat) ^ 8 = 18446744073709551616 := by decide
          rw [hp8] at hfl
          have hn1 := HN1.out
          have hwm : IntKind.u64.wrap (-(n : Int)) = ((18446744073709551616 - n : Nat) : Int) := by rw [wrap_neg n (by omega), Nat.mod_eq_of_lt (by omega)]
          go_wp2
          go_meet
          case rel =>
            rw [HRV.out]
            have hne : rb ≠ xb := by have := HNE.out; omega
            have a2 := hsc_same (hsc_same (hsc_same HB3.out 0 (.bool true)) 1 (.int .u64 0)) 2 (.int .u64 ((256 ^ 8 - n : Nat) : Int))
            refine ⟨?_, (by show _ = some (Obj.cells #[.bool true, .int .u64 ((0 : Nat) : Int), .int .u64 ((256 ^ 8 - n : Nat) : Int)] _ (0, 0)); simpa using a2), ?_⟩
            · rw [hsc_ne _ hne, hsc_ne _ hne, hsc_ne _ hne]; exact HR3.out
            · have hx : w.heap.size ≤ xb := by have := HRB.out; have := HNE.out; omega
              exact ((HK3.out.setCell_new hx _).setCell_new hx _).setCell_new hx _
    case rest =>
    obtain ⟨hr4, hx4, hk4⟩ := hcut
    have HR4 := hid hr4; have HX4 := hid hx4; have HK4 := hid hk4
    clear hr4 hx4 hk4 HNE HB3 HR3 HK3 HV HQ1
    have hft := HFT.out
    have c0 : wc.cell? ⟨xb, 0, none⟩ = some (.bool R.neg) := cell_of HX4.out (by rfl)
    have c1 : wc.cell? ⟨xb, 1, none⟩ = some (.int .u64 (R.hi : Int)) := cell_of HX4.out (by rfl)
    have c2 : wc.cell? ⟨xb, 2, none⟩ = some (.int .u64 (R.lo : Int)) := cell_of HX4.out (by rfl)
    have f0 : wc.frozen? ⟨rb, 0, none⟩ = false := free_of HR4.out 0
    have f1 : wc.frozen? ⟨rb, 1, none⟩ = false := free_of HR4.out 1
    have f2 : wc.frozen? ⟨rb, 2, none⟩ = false := free_of HR4.out 2
    have d0 : wc.cell? ⟨rb, 0, none⟩ = some (.bool false) := cell_of HR4.out (by rfl)
    have d1 : wc.cell? ⟨rb, 1, none⟩ = some (.int .u64 0) := cell_of HR4.out (by rfl)
    have d2 : wc.cell? ⟨rb, 2, none⟩ = some (.int .u64 0) := cell_of HR4.out (by rfl)
    by_cases h1 : k = 1
    · have g1 : (k == 1) = true := beq_iff_eq.2 h1
      by_cases h2 : 1 < n
      · have g2 : decide ((1 : Int) < (n : Int)) = true := decide_eq_true (by omega)
        have g3 : decide (1 < n) = true := decide_eq_true h2
        rw [decide_eq_true h1, g3] at hft
        subst hft
        go_wp2
        (try simp only [Exit.inBlock, Exit.then])
        refine bodyPost_ret (results_ct rfl _ rfl (run_loadVar_row _ rb _ 57 _ _ _ (cells3 (.bool false) (.int .u64 0) (.int .u64 0) HR4.out) Try.underlying57 rfl (by kernel_rfl))) rfl ?_
        exact ⟨rfl, ((HK4.out.setCell_new HRB.out _).setCell_new HRB.out _).setCell_new HRB.out _⟩
      · have g2 : decide ((1 : Int) < (n : Int)) = false := decide_eq_false (by omega)
        have g3 : decide (1 < n) = false := decide_eq_false h2
        rw [g3, Bool.and_false] at hft
        subst hft
        go_wp2
        (try simp only [Exit.inBlock, Exit.then])
        refine bodyPost_ret (results_ct rfl _ rfl (run_loadVar_row _ rb _ 57 _ _ _ (cells3 (.bool R.neg) (.int .u64 (R.hi : Int)) (.int .u64 (R.lo : Int)) HR4.out) Try.underlying57 rfl (by kernel_rfl))) rfl ?_
        exact ⟨rfl, ((HK4.out.setCell_new HRB.out _).setCell_new HRB.out _).setCell_new HRB.out _⟩
    · have g1 : (k == 1) = false := beq_eq_false_iff_ne.2 h1
      rw [decide_eq_false h1] at hft
      subst hft
      go_wp2
      (try simp only [Exit.inBlock, Exit.then])
      refine bodyPost_ret (results_ct rfl _ rfl (run_loadVar_row _ rb _ 57 _ _ _ (cells3 (.bool R.neg) (.int .u64 (R.hi : Int)) (.int .u64 (R.lo : Int)) HR4.out) Try.underlying57 rfl (by kernel_rfl))) rfl ?_
      exact ⟨rfl, ((HK4.out.setCell_new HRB.out _).setCell_new HRB.out _).setCell_new HRB.out _⟩
end Go.Proofs.Ytkgkcnmnfhehfaa

namespace Go.Proofs.Ytkgkcnmnfhehfaa
open Go.RowKit Go.Proofs.Heap Go.Proofs.Sch Go.Proofs.Wide

/-- The row's size and the places of its fields, where the fields can be. -/
def ofSize (fs : List Fld) : Nat := if layC fs = 0 then pSize fs else 0
def ofAt (fs : List Fld) : List Nat := if layC fs = 0 then (pRun fs).2.2 else []
theorem at_len (fs : List Fld) : ∀ k, k ≤ fs.length → (pRun (fs.take k)).2.2.length = k
  | 0, _ => by rw [List.take_zero]; rfl
  | k + 1, hk => by
    have h1 := at_len fs k (by omega)
    obtain ⟨g, hg⟩ : ∃ f, fs[k]? = some f := ⟨fs[k], by simp [show k < fs.length by omega]⟩
    rw [pRun_next hg]
    unfold pStep
    simp [h1]

set_option maxRecDepth 20000 in
set_option maxHeartbeats 8000000 in
theorem lay_of (fs : List Fld) (p : Option Addr) (cap : Nat) (w : World) (hf : FP w w.heap.size p fs) :
    Calls Try.prog 18 #[.slice p fs.length cap] w fun r w' => ∃ a c, r = .returned (.tuple #[.agg #[iV (ofSize fs), .slice a (ofAt fs).length c], iV (layC fs)]) ∧ w'.ownsRow w.heap.size 3 1 (.slice a (ofAt fs).length c) (ofAt fs).length ((ofAt fs).map iV) ∧ Keep (fun _ => False) w w' := by
  have HF := hid hf
  clear hf
  obtain ⟨w0, hw0, hb0, hs0, hk0⟩ := box1 w #[.int .i64 0, .slice none 0 0] 45
  have HB0 := hid hb0; have HK0 := hid hk0; have HSW := hid hs0
  clear hb0 hk0 hs0
  have HF0 := hid (FP.mono (FP.low HF.out (Low.keep0 HK0.out)) HK0.out.size)
  go_enter Try.func18, Try.ntmps18
  go_upto_region 1 with fail
  rw [← hw0]
  clear hw0
  generalize hsb : w.heap.size = sb at *
  have HSB := hid hsb
  clear hsb
  go_wp2_with fail
  refine (layout_check fs _ cap _ HF0.out).mono ?_
  rintro r w1 ⟨rfl, hk1⟩
  have HK1 := hid (HK0.out.trans hk1); have HB1 := hid (hk1.get HB0.out id)
  have HF1 := hid (FP.mono (FP.low HF0.out (Low.keep0 hk1)) hk1.size)
  have HS1 : Hid (sb < w1.heap.size) := hid (by have := hk1.size; have := HSW.out; omega)
  clear hk1
  have HSZ : Hid (ofSize fs = if layC fs = 0 then pSize fs else 0) := hid rfl
  have HAT : Hid (ofAt fs = if layC fs = 0 then (pRun fs).2.2 else []) := hid rfl
  have HLC := hid (fun h : layC fs = 0 => layC_zero h)
  generalize hz : layC fs = z at *
  by_cases h0 : z = 0
  rotate_left
  · have g3 : ((z : Int) != 0) = true := by rw [bne, beq_eq_false_iff_ne.2 (show (z : Int) ≠ 0 by omega)]; rfl
    have g4 : (z != 0) = true := by rw [bne, beq_eq_false_iff_ne.2 h0]; rfl
    have G1 : Hid (ofSize fs = 0) := hid (by rw [HSZ.out, if_neg h0])
    have G2 : Hid (ofAt fs = []) := hid (by rw [HAT.out, if_neg h0])
    have GZ := hid hz
    clear h0 hz
    have b0 := free_of HB1.out 0
    have b1 := free_of HB1.out 1
    have bc0 := cell_of HB1.out (i := 0) (by rfl)
    have bc1 := cell_of HB1.out (i := 1) (by rfl)
    go_wp2
    (try simp only [Exit.inBlock, Exit.then])
    refine bodyPost_ret (results_ct rfl _ rfl (run_loadVar_row _ sb _ 45 _ _ _ (cells2 (.int .i64 0) (.slice none 0 0) HB1.out) Try.underlying45 rfl (by kernel_rfl))) rfl ?_
    rw [G1.out, G2.out, GZ.out]
    exact ⟨none, 0, rfl, World.ownsRow_nil _ _ _ _, (HK1.out.setCell_new (p := ⟨sb, 0, none⟩) (by have := HSB.out; show _ ≤ sb; omega) _).setCell_new (p := ⟨sb, 1, none⟩) (by have := HSB.out; show _ ≤ sb; omega) _⟩
  subst h0
  have hok := HLC.out rfl
  have hl8 := hok.1
  have HOK := hid hok.2
  have HPL := hid (fun w p (hf : FP w w.heap.size p fs) => plan_of fs p cap w hl8 hf hok.2)
  have G1 : Hid (ofSize fs = pSize fs) := hid (by rw [HSZ.out, if_pos rfl])
  have G2 : Hid (ofAt fs = (pRun fs).2.2) := hid (by rw [HAT.out, if_pos rfl])
  have G3 : Hid ((pRun fs).2.2.length = fs.length) := hid (by have := at_len fs fs.length (Nat.le_refl _); rwa [List.take_length] at this)
  have GZ := hid hz
  clear hz hok hl8
  go_wp2_with fail
  refine (HPL.out _ _ HF1.out).mono ?_
  rintro r w3 ⟨v, rfl, hown, hk3⟩
  obtain ⟨va, vc, rfl⟩ : ∃ a c, v = .slice a fs.length c := by
    rcases hown.2 with ⟨h, h2⟩ | ⟨g, cp, cur, h, _⟩
    · exact ⟨none, 0, by rw [h, h2]⟩
    · exact ⟨_, _, h⟩
  have HK3 := hid (HK1.out.trans hk3); have HB3 := hid (hk3.get HB1.out id); have HOWN := hid hown
  clear hk3 hown
  have b0 := free_of HB3.out 0
  have b1 := free_of HB3.out 1
  have bc0 := cell_of HB3.out (i := 0) (by rfl)
  have bc1 := cell_of HB3.out (i := 1) (by rfl)
  have HSZ2 : Hid (∀ n, pSize fs = n → ofSize fs = n) := hid (fun n h => by rw [G1.out, h])
  obtain ⟨sz, hsz⟩ : ∃ n, pSize fs = n := ⟨_, rfl⟩
  have HSZ3 := hid (HSZ2.out sz hsz)
  rw [hsz]
  clear hsz
  go_wp2
  (try simp only [Exit.inBlock, Exit.then])
  refine bodyPost_ret (results_ct rfl _ rfl (run_loadVar_row _ sb _ 45 _ _ _ (cells2 (.int .i64 (sz : Int)) (.slice va fs.length vc) HB3.out) Try.underlying45 rfl (by kernel_rfl))) rfl ?_
  rw [HSZ3.out, G2.out, GZ.out, G3.out]
  refine ⟨va, vc, rfl, ?_, (HK3.out.setCell_new (p := ⟨sb, 0, none⟩) (by have := HSB.out; show _ ≤ sb; omega) _).setCell_new (p := ⟨sb, 1, none⟩) (by have := HSB.out; show _ ≤ sb; omega) _⟩
  have hne : ∀ k, (Value.slice va fs.length vc).ownBlock = some k → k ≠ sb := fun k hk => by have := (HOWN.out.lt k hk).1; have := HS1.out; omega
  exact owns_mono (owns_keep HOWN.out (fun k hk => (hsc_ne _ (hne k hk)).trans (hsc_ne _ (hne k hk)))) (by have := HSB.out; have := HS1.out; omega)
end Go.Proofs.Ytkgkcnmnfhehfaa

namespace Go.Proofs.Ytkgkcnmnfhehfaa
open Go.RowKit Go.Proofs.Heap Go.Proofs.Sch Go.Proofs.TMap

/-- The error of the components that are left. -/
def compsC : Int → List ByteArray → List Cmp → Nat
  | _, _, [] => 0
  | last, seen, c :: r => if c.id ≤ last ∨ 24 < c.id then 1 else if nameB c.name = false ∨ memB c.name seen = true then 4 else if fieldsC c.fs = 0 then compsC c.id (seen ++ [c.name]) r else fieldsC c.fs
/-- The error of a schema. -/
def checkC (v : Int) (cs : List Cmp) : Nat := if v < 1 ∨ 1073741824 < v then 1 else compsC 0 [] cs

/-- A schema of no great size. -/
def Small (cs : List Cmp) : Prop := cs.length ≤ 2932031007402 ∧ ∀ c ∈ cs, c.fs.length ≤ 4398046511104

end Go.Proofs.Ytkgkcnmnfhehfaa

namespace Go.Proofs.Sch
theorem Fld.ext_iff' (a b : Fld) : (a.name = b.name ∧ a.kind = b.kind ∧ a.count = b.count) ↔ a = b := by
  cases a; cases b; simp
instance : DecidableEq Fld := fun a b => decidable_of_iff _ (Fld.ext_iff' a b)
end Go.Proofs.Sch
namespace Go.Proofs.Ytkgkcnmnfhehfaa
open Go.RowKit Go.Proofs.Heap Go.Proofs.Sch

theorem take_eq {α : Type} {A B : List α} {k : Nat} {x y : α} (h : A.take k = B.take k) (hx : A[k]? = some x) (hy : B[k]? = some y) (e : x = y) : A.take (k + 1) = B.take (k + 1) := by
  rw [take_next hx, take_next hy, h, e]

theorem toList_inj {a b : ByteArray} (h : a.toList = b.toList) : a = b := of_decide_eq_true (by rw [← seq_dec]; simp [h])

theorem Cmp.ext_iff' (a b : Cmp) : (a.id = b.id ∧ a.name = b.name ∧ a.fs = b.fs) ↔ a = b := by
  cases a; cases b; simp
instance : DecidableEq Cmp := fun a b => decidable_of_iff _ (Cmp.ext_iff' a b)

end Go.Proofs.Ytkgkcnmnfhehfaa

namespace Go.Proofs.Ytkgkcnmnfhehfaa
open Go.RowKit Go.Proofs.Heap Go.Proofs.Sch

end Go.Proofs.Ytkgkcnmnfhehfaa

namespace Go.Proofs.Sch
open Go.RowKit Go.Proofs.Heap

section
variable {α : Type} {g : α → List Value}

theorem flat3_len (hg : ∀ x, (g x).length = 3) (l : List α) : (l.flatMap g).length = l.length * 3 := by
  induction l with
  | nil => rfl
  | cons x l ih => rw [List.flatMap_cons, List.length_append, hg, ih, List.length_cons]; omega
theorem flat3_at (hg : ∀ x, (g x).length = 3) (l : List α) : ∀ (i : Nat) (x : α) (r : Nat), l[i]? = some x → r < 3 → (l.flatMap g)[i * 3 + r]? = (g x)[r]? := by
  induction l with
  | nil => intro i x r h; simp at h
  | cons y l ih =>
    intro i x r h hr
    rw [List.flatMap_cons]
    cases i with
    | zero =>
      simp at h
      subst h
      rw [List.getElem?_append_left (by rw [hg]; omega), Nat.zero_mul, Nat.zero_add]
    | succ i =>
      rw [List.getElem?_append_right (by rw [hg]; omega), hg, show (i + 1) * 3 + r - 3 = i * 3 + r by omega]
      exact ih i x r (by simpa using h) hr
theorem flat3_inv (hg : ∀ x, (g x).length = 3) (l : List α) {j : Nat} {u : Value} (h : (l.flatMap g)[j]? = some u) : ∃ x, l[j / 3]? = some x ∧ (g x)[j % 3]? = some u := by
  have hj := (List.getElem?_eq_some_iff.1 h).1
  rw [flat3_len hg] at hj
  have hi : j / 3 < l.length := by omega
  refine ⟨l[j / 3], List.getElem?_eq_getElem hi, ?_⟩
  rw [← flat3_at hg l (j / 3) _ (j % 3) (List.getElem?_eq_getElem hi) (by omega), show j / 3 * 3 + j % 3 = j by omega]
  exact h

theorem rd_row3 {w : World} {b off c : Nat} {l : List α} (hg : ∀ x, (g x).length = 3) (h1 : ∀ x, ∀ u ∈ g x, u.oneCell' = true) (hc : ∀ i x, l[i]? = some x → ∀ r u, (g x)[r]? = some u → w.cell? ⟨b, off + i * 3 + r, none⟩ = some u) :
    Rd w 3 (.slice (some ⟨b, off, none⟩) l.length c) l.length (l.flatMap g) := by
  refine ⟨flat3_len hg l, ?_, .inr ⟨_, _, rfl, fun j u hj => ?_⟩⟩
  · intro u hu
    obtain ⟨x, _, hx⟩ := List.mem_flatMap.1 hu
    exact h1 x u hx
  · obtain ⟨x, hx, hu⟩ := flat3_inv hg l hj
    have := hc _ _ hx _ _ hu
    have hadd : (⟨b, off, none⟩ : Addr).add j = ⟨b, off + j, none⟩ := by unfold Addr.add; split <;> simp_all
    rw [hadd, show off + j = off + j / 3 * 3 + j % 3 by omega]
    exact this

/-- An owned row's cell. -/
theorem owns3_cell {w : World} {base : Nat} {e : TypeId} {q c n : Nat} {l : List α} (hg : ∀ x, (g x).length = 3) (h : w.ownsRow base e 3 (.slice (some ⟨q, 0, none⟩) n c) n (l.flatMap g)) {i r : Nat} {x : α} {u : Value} (hx : l[i]? = some x) (hu : (g x)[r]? = some u) : w.cell? ⟨q, i * 3 + r, none⟩ = some u := by
  have hr : r < 3 := by have := (List.getElem?_eq_some_iff.1 hu).1; rw [hg] at this; exact this
  have := h.cells (g := q) rfl (i * 3 + r) u (by rw [flat3_at hg l i x r hx hr]; exact hu)
  have hadd : (⟨q, 0, none⟩ : Addr).add (i * 3 + r) = ⟨q, i * 3 + r, none⟩ := by unfold Addr.add; split <;> simp_all
  rwa [hadd] at this

/-- A cell of an owned row is set. -/
theorem owns_set3 {w : World} {base : Nat} {e : TypeId} {q c n : Nat} {xs : List Value} (h : w.ownsRow base e 3 (.slice (some ⟨q, 0, none⟩) n c) n xs) (k : Nat) (x : Value) :
    (w.setCell ⟨q, k, none⟩ x).ownsRow base e 3 (.slice (some ⟨q, 0, none⟩) n c) n (xs.set k x) := by
  rcases owns_block h with ⟨e1, _⟩ | ⟨g', c', cur, e1, hb, hg, hn, hm, hs, ht⟩
  · cases e1
  · injection e1 with e1 _ e2
    injection e1 with e1
    injection e1 with e1
    subst e1; subst e2
    refine ⟨by rw [List.length_set]; exact h.1, .inr ⟨_, _, _, rfl, hb, hsc_same hg k x, hn, hm, by simpa using hs, ?_⟩⟩
    rw [← ht]
    simp [List.take_set]
end

def fcl (f : Fld) : List Value := [.string f.name, .int .i64 f.kind, .int .i64 f.count]
theorem fcl_len (f : Fld) : (fcl f).length = 3 := rfl
theorem fcl_one (f : Fld) : ∀ u ∈ fcl f, u.oneCell' = true := by
  intro u hu; simp [fcl] at hu; rcases hu with rfl | rfl | rfl <;> rfl
/-- A component with its row's address and room. -/
abbrev Cv := Cmp × Option Addr × Nat
def ccl (c : Cv) : List Value := [.int .i64 c.1.id, .string c.1.name, .slice c.2.1 c.1.fs.length c.2.2]
theorem ccl_len (c : Cv) : (ccl c).length = 3 := rfl
theorem ccl_one (c : Cv) : ∀ u ∈ ccl c, u.oneCell' = true := by
  intro u hu; simp [ccl] at hu; rcases hu with rfl | rfl | rfl <;> rfl

theorem rd_fields {w : World} {B b off c : Nat} {l : List Fld} (h : FP w B (some ⟨b, off, none⟩) l) : Rd w 3 (.slice (some ⟨b, off, none⟩) l.length c) l.length (l.flatMap fcl) := by
  refine rd_row3 fcl_len fcl_one fun i x hx r u hu => ?_
  obtain ⟨b', off', e, _, h0, h1, h2⟩ := FP.at h hx
  injection e with e
  injection e with e1 e2
  subst e1; subst e2
  match r, hu with
  | 0, hu => injection hu with hu; subst hu; exact h0
  | 1, hu => injection hu with hu; subst hu; exact h1
  | 2, hu => injection hu with hu; subst hu; exact h2
  | _ + 3, hu => simp [fcl] at hu

/-- An owned row of fields is a row of fields. -/
theorem fp_own {w : World} {base n : Nat} {e : TypeId} {p : Option Addr} {c : Nat} {l : List Fld} (hn : l.length = n) (h : w.ownsRow base e 3 (.slice p n c) n (l.flatMap fcl)) : FP w w.heap.size p l := by
  rcases Nat.eq_zero_or_pos n with h0 | h0
  · exact .inl (List.eq_nil_of_length_eq_zero (by omega))
  · obtain ⟨q, rfl⟩ := owns_some h h0
    refine .inr ⟨q, 0, rfl, (h.lt q (by simp [Value.ownBlock])).2, fun i x hx => ?_⟩
    have e0 := owns3_cell fcl_len h hx (r := 0) (u := .string x.name) rfl
    have e1 := owns3_cell fcl_len h hx (r := 1) (u := .int .i64 x.kind) rfl
    have e2 := owns3_cell fcl_len h hx (r := 2) (u := .int .i64 x.count) rfl
    rw [Nat.zero_add]
    exact ⟨e0, e1, e2⟩

/-- The components' rows: the addresses and rooms of a schema. -/
def CV (w : World) (B : Nat) (l : List Cv) : Prop := ∀ c ∈ l, c.1.fs.length ≤ c.2.2 ∧ FP w B c.2.1 c.1.fs
theorem CV.low {w w' : World} {B : Nat} {l : List Cv} (h : CV w B l) (hl : Low B w w') : CV w' B l := fun c hc => ⟨(h c hc).1, FP.low (h c hc).2 hl⟩
theorem CV.mono {w : World} {B B' : Nat} {l : List Cv} (h : CV w B l) (hb : B ≤ B') : CV w B' l := fun c hc => ⟨(h c hc).1, FP.mono (h c hc).2 hb⟩

theorem cp_own {w : World} {base n : Nat} {e : TypeId} {p : Option Addr} {c : Nat} {l : List Cv} (hn : l.length = n) (h : w.ownsRow base e 3 (.slice p n c) n (l.flatMap ccl)) (hv : CV w w.heap.size l) : CP w w.heap.size p (l.map (·.1)) := by
  rcases Nat.eq_zero_or_pos n with h0 | h0
  · exact .inl (by rw [List.eq_nil_of_length_eq_zero (by omega : l.length = 0)]; rfl)
  · obtain ⟨q, rfl⟩ := owns_some h h0
    refine .inr ⟨q, 0, rfl, (h.lt q (by simp [Value.ownBlock])).2, fun i x hx => ?_⟩
    rw [List.getElem?_map] at hx
    cases hy : l[i]? with
    | none => rw [hy] at hx; cases hx
    | some y =>
      rw [hy] at hx
      injection hx with hx
      subst hx
      have e0 := owns3_cell ccl_len h hy (r := 0) (u := .int .i64 y.1.id) rfl
      have e1 := owns3_cell ccl_len h hy (r := 1) (u := .string y.1.name) rfl
      have e2 := owns3_cell ccl_len h hy (r := 2) (u := .slice y.2.1 y.1.fs.length y.2.2) rfl
      have hv' := hv y (List.mem_of_getElem? hy)
      rw [Nat.zero_add]
      exact ⟨e0, e1, y.2.1, y.2.2, e2, hv'.1, hv'.2⟩

/-- A row of components, with what its cells hold. -/
theorem cp_rows {w : World} {B b off : Nat} {l : List Cmp} (h : CP w B (some ⟨b, off, none⟩) l) : ∃ vs : List Cv, vs.map (·.1) = l ∧ CV w B vs ∧ ∀ i x, vs[i]? = some x → ∀ r u, (ccl x)[r]? = some u → w.cell? ⟨b, off + i * 3 + r, none⟩ = some u := by
  have key : ∀ k, k ≤ l.length → ∃ vs : List Cv, vs.map (·.1) = l.take k ∧ CV w B vs ∧ ∀ i x, vs[i]? = some x → ∀ r u, (ccl x)[r]? = some u → w.cell? ⟨b, off + i * 3 + r, none⟩ = some u := by
    intro k
    induction k with
    | zero => intro _; exact ⟨[], by simp, fun c hc => by simp at hc, fun i x hx => by simp at hx⟩
    | succ k ih =>
      intro hk
      obtain ⟨vs, h1, h2, h3⟩ := ih (by omega)
      have hx : l[k]? = some l[k] := List.getElem?_eq_getElem (by omega)
      obtain ⟨b', off', q, z, e, _, c0, c1, c2, c3, c4⟩ := CP.at h hx
      injection e with e
      injection e with e1 e2
      subst e1; subst e2
      have hvl : vs.length = k := by have := congrArg List.length h1; rw [List.length_map, List.length_take] at this; omega
      refine ⟨vs ++ [(l[k], q, z)], ?_, ?_, ?_⟩
      · rw [List.map_append, h1, List.take_add_one, hx]; rfl
      · intro c hc
        rcases List.mem_append.1 hc with hc | hc
        · exact h2 c hc
        · rw [List.mem_singleton.1 hc]; exact ⟨c3, c4⟩
      · intro i x hi r u hu
        by_cases hik : i < vs.length
        · rw [List.getElem?_append_left hik] at hi
          exact h3 i x hi r u hu
        · rw [List.getElem?_append_right (by omega)] at hi
          have hi0 : i - vs.length = 0 := by
            have := (List.getElem?_eq_some_iff.1 hi).1
            simp at this; omega
          rw [hi0] at hi
          injection hi with hi
          subst hi
          have hik : i = k := by omega
          subst hik
          match r, hu with
          | 0, hu => injection hu with hu; subst hu; exact c0
          | 1, hu => injection hu with hu; subst hu; exact c1
          | 2, hu => injection hu with hu; subst hu; exact c2
          | _ + 3, hu => simp [ccl] at hu
  obtain ⟨vs, h1, h2, h3⟩ := key l.length (Nat.le_refl _)
  exact ⟨vs, by rw [h1, List.take_length], h2, h3⟩
end Go.Proofs.Sch

namespace Go.Proofs.Ytkgkcnmnfhehfaa
open Go.RowKit Go.Proofs.Heap Go.Proofs.Sch

theorem info_fld : (Try.prog.info? 41).map (fun i => (i.zero, i.size, i.bytes)) = some (some (.agg #[.string ⟨#[]⟩, .int .i64 0, .int .i64 0]), 3, 32) := by kernel_rfl
theorem owns_room {w : World} {base : Nat} {e : TypeId} {size n c : Nat} {p : Option Addr} {xs : List Value} (h : w.ownsRow base e size (.slice p n c) n xs) : n ≤ c := by
  rcases owns_block h with ⟨e1, e2, _⟩ | ⟨g, c', cur, e1, _, _, hn, _⟩
  · omega
  · injection e1 with _ _ e3; omega

theorem nil_yes (n c : Nat) (w : World) : (binOp .eql 22 (.slice none n c) (.slice none 0 0)).run Try.prog w = .ok (.bool true) w := by kernel_rfl
theorem nil_no (a : Addr) (n c : Nat) (w : World) : (binOp .eql 22 (.slice (some a) n c) (.slice none 0 0)).run Try.prog w = .ok (.bool false) w := by kernel_rfl

theorem flat_set2 (nw r : List Cv) (x : Cv) (p : Option Addr) (c : Nat) : ((nw ++ x :: r).flatMap ccl).set (nw.length * 3 + 2) (.slice p x.1.fs.length c) = ((nw ++ [(x.1, p, c)]) ++ r).flatMap ccl := by
  have hl := flat3_len ccl_len nw
  rw [List.flatMap_append, List.flatMap_append, List.flatMap_append, List.set_append_right _ _ (by omega), hl, show nw.length * 3 + 2 - nw.length * 3 = 2 by omega, List.append_assoc]
  rfl

end Go.Proofs.Ytkgkcnmnfhehfaa

namespace Go.Proofs.Ytkgkcnmnfhehfaa
open Go.RowKit Go.Proofs.Heap Go.Proofs.Sch

/-- The place of the first one; less than nought: there is none. -/
def idxI {α : Type} (q : α → Bool) (l : List α) : Int := match l.findIdx? q with | some i => (i : Int) | none => -1
theorem idx_at {α : Type} {q : α → Bool} {l : List α} {k : Nat} {x : α} (hx : l[k]? = some x) (hq : q x = true) (h : ∀ y ∈ l.take k, q y = false) : idxI q l = (k : Int) := by
  have : l.findIdx? q = some k := by
    rw [List.findIdx?_eq_some_iff_getElem]
    obtain ⟨hk, rfl⟩ := List.getElem?_eq_some_iff.1 hx
    refine ⟨hk, hq, fun j hj => ?_⟩
    have := h l[j] (by rw [List.mem_take_iff_getElem]; exact ⟨j, by omega, rfl⟩)
    simp [this]
  unfold idxI; rw [this]
theorem idx_none {α : Type} {q : α → Bool} {l : List α} (h : ∀ y ∈ l, q y = false) : idxI q l = -1 := by
  unfold idxI; rw [List.findIdx?_eq_none_iff.2 h]

end Go.Proofs.Ytkgkcnmnfhehfaa

namespace Go.Proofs.Ytkgkcnmnfhehfaa
open Go.RowKit Go.Proofs.Heap Go.Proofs.Sch

def ApartC (a b : Cmp) : Prop := a.id < b.id ∧ a.name ≠ b.name
/-- What Check asks of the components. -/
def GoodC (last : Int) (seen : List ByteArray) (cs : List Cmp) : Prop :=
  (∀ c ∈ cs, last < c.id ∧ c.id ≤ 24 ∧ nameB c.name = true ∧ memB c.name seen = false ∧ fieldsC c.fs = 0) ∧ cs.Pairwise ApartC

theorem memB_snoc (s m : ByteArray) (ns : List ByteArray) : memB s (ns ++ [m]) = false ↔ memB s ns = false ∧ s ≠ m := by
  unfold memB
  rw [List.any_append]
  simp [Bool.or_eq_false_iff]

theorem compsC_iff : ∀ (cs : List Cmp) (last : Int) (seen : List ByteArray), compsC last seen cs = 0 ↔ GoodC last seen cs
  | [], last, seen => by simp [compsC, GoodC]
  | c :: r, last, seen => by
    unfold compsC
    have ih := compsC_iff r c.id (seen ++ [c.name])
    by_cases h1 : c.id ≤ last ∨ 24 < c.id
    · rw [if_pos h1]
      refine ⟨fun h => by omega, fun h => ?_⟩
      have := h.1 c (List.mem_cons_self ..)
      omega
    rw [if_neg h1]
    by_cases h2 : nameB c.name = false ∨ memB c.name seen = true
    · rw [if_pos h2]
      refine ⟨fun h => by omega, fun h => ?_⟩
      have h3 := h.1 c (List.mem_cons_self ..)
      rcases h2 with e | e
      · rw [e] at h3; simp at h3
      · rw [e] at h3; simp at h3
    rw [if_neg h2]
    by_cases h3 : fieldsC c.fs = 0
    · rw [if_pos h3, ih]
      have hn : nameB c.name = true := by
        cases e : nameB c.name
        · exact absurd (.inl e) h2
        · rfl
      have hm : memB c.name seen = false := by
        cases e : memB c.name seen
        · rfl
        · exact absurd (.inr e) h2
      constructor
      · rintro ⟨ha, hp⟩
        refine ⟨fun d hd => ?_, List.pairwise_cons.2 ⟨fun d hd => ?_, hp⟩⟩
        · rcases List.mem_cons.1 hd with rfl | hd
          · exact ⟨by omega, by omega, hn, hm, h3⟩
          · obtain ⟨a1, a2, a3, a4, a5⟩ := ha d hd
            exact ⟨by omega, a2, a3, ((memB_snoc _ _ _).1 a4).1, a5⟩
        · obtain ⟨a1, _, _, a4, _⟩ := ha d hd
          exact ⟨a1, fun e => ((memB_snoc _ _ _).1 a4).2 e.symm⟩
      · rintro ⟨ha, hp⟩
        obtain ⟨hp1, hp2⟩ := List.pairwise_cons.1 hp
        refine ⟨fun d hd => ?_, hp2⟩
        obtain ⟨_, a2, a3, a4, a5⟩ := ha d (List.mem_cons_of_mem _ hd)
        exact ⟨(hp1 d hd).1, a2, a3, (memB_snoc _ _ _).2 ⟨a4, fun e => (hp1 d hd).2 e.symm⟩, a5⟩
    · rw [if_neg h3]
      exact ⟨fun h => absurd h h3, fun h => absurd (h.1 c (List.mem_cons_self ..)).2.2.2.2 h3⟩

/-- A schema that can be. -/
def GoodS (v : Int) (cs : List Cmp) : Prop := (1 ≤ v ∧ v ≤ 1073741824) ∧ GoodC 0 [] cs
theorem checkC_iff (v : Int) (cs : List Cmp) : checkC v cs = 0 ↔ GoodS v cs := by
  unfold checkC GoodS
  by_cases h : v < 1 ∨ 1073741824 < v
  · rw [if_pos h]
    exact ⟨fun h => by omega, fun h => by omega⟩
  · rw [if_neg h, compsC_iff]
    exact ⟨fun hg => ⟨by omega, hg⟩, fun hg => hg.2⟩
theorem GoodC.sub {last : Int} {seen : List ByteArray} {cs ds : List Cmp} (h : GoodC last seen cs) (hs : ds.Sublist cs) : GoodC last seen ds :=
  ⟨fun c hc => h.1 c (hs.subset hc), h.2.sublist hs⟩
theorem checkC_less {v : Int} {cs : List Cmp} (h : checkC v cs = 0) (k : Nat) : checkC v (cs.take k ++ cs.drop (k + 1)) = 0 := by
  rw [checkC_iff] at h ⊢
  refine ⟨h.1, h.2.sub ?_⟩
  have h1 : (cs.take k ++ cs.drop (k + 1)).Sublist (cs.take k ++ cs.drop k) := by
    refine List.Sublist.append (List.Sublist.refl _) ?_
    rw [← List.drop_drop]
    exact List.drop_sublist _ _
  rwa [List.take_append_drop] at h1

/-- What differs from all that came earlier is found where it is. -/
theorem pair_idx {α β : Type} [DecidableEq β] (f : α → β) {l : List α} (h : l.Pairwise (fun a b => f a ≠ f b)) {k : Nat} {x : α} (hk : l[k]? = some x) : idxI (fun y => decide (f y = f x)) l = (k : Int) := by
  refine idx_at hk (decide_eq_true rfl) (fun y hy => decide_eq_false ?_)
  obtain ⟨i, hi⟩ := List.getElem?_of_mem hy
  have hlt := (List.getElem?_eq_some_iff.1 hi).1
  rw [List.length_take] at hlt
  rw [List.getElem?_take_of_lt (by omega)] at hi
  obtain ⟨h1, rfl⟩ := List.getElem?_eq_some_iff.1 hi
  obtain ⟨h2, rfl⟩ := List.getElem?_eq_some_iff.1 hk
  exact (List.pairwise_iff_getElem.1 h) i k h1 h2 (by omega)
theorem GoodS.id_idx {v : Int} {cs : List Cmp} (h : GoodS v cs) {k : Nat} {c : Cmp} (hk : cs[k]? = some c) : idxI (fun y => decide (y.id = c.id)) cs = (k : Int) :=
  pair_idx Cmp.id (h.2.2.imp fun hab => by have := hab.1; omega) hk
theorem GoodS.name_idx {v : Int} {cs : List Cmp} (h : GoodS v cs) {k : Nat} {c : Cmp} (hk : cs[k]? = some c) : idxI (fun y => decide (y.name = c.name)) cs = (k : Int) :=
  pair_idx Cmp.name (h.2.2.imp fun hab => hab.2) hk

theorem fldBad_iff : ∀ (fs : List Fld) (seen : List ByteArray), fldBad seen fs = false → (∀ f ∈ fs, nameB f.name = true ∧ memB f.name seen = false) ∧ fs.Pairwise (fun a b => a.name ≠ b.name)
  | [], _, _ => ⟨fun _ h => by simp at h, .nil⟩
  | f :: r, seen, h => by
    unfold fldBad at h
    simp only [Bool.or_eq_false_iff, Bool.not_eq_false'] at h
    obtain ⟨h1, h2, h3⟩ := h
    obtain ⟨ha, hp⟩ := fldBad_iff r _ h3
    refine ⟨fun d hd => ?_, List.pairwise_cons.2 ⟨fun d hd => ?_, hp⟩⟩
    · rcases List.mem_cons.1 hd with rfl | hd
      · exact ⟨h1, h2⟩
      · exact ⟨(ha d hd).1, ((memB_snoc _ _ _).1 (ha d hd).2).1⟩
    · exact fun e => ((memB_snoc _ _ _).1 (ha d hd).2).2 e.symm
theorem fieldsC_zero {fs : List Fld} (h : fieldsC fs = 0) : fldBad [] fs = false ∧ layC fs = 0 := by
  unfold fieldsC at h
  cases e : fldBad [] fs
  · rw [e] at h; simp at h; exact ⟨rfl, h⟩
  · rw [e] at h; simp at h
theorem GoodS.field_idx {v : Int} {cs : List Cmp} (h : GoodS v cs) {c : Cmp} (hc : c ∈ cs) {j : Nat} {f : Fld} (hj : c.fs[j]? = some f) : idxI (fun y : Fld => decide (y.name = f.name)) c.fs = (j : Int) :=
  pair_idx Fld.name (fldBad_iff _ _ (fieldsC_zero (h.2.1 c hc).2.2.2.2).1).2 hj
end Go.Proofs.Ytkgkcnmnfhehfaa

namespace Go.Proofs.Ytkgkcnmnfhehfaa
open Go.RowKit Go.Proofs.Heap Go.Proofs.Sch

theorem idx_cases {α : Type} (q : α → Bool) (l : List α) : idxI q l = -1 ∨ ∃ (k : Nat) (x : α), idxI q l = (k : Int) ∧ l[k]? = some x ∧ q x = true ∧ k < l.length := by
  unfold idxI
  cases h : l.findIdx? q with
  | none => exact .inl rfl
  | some k =>
    obtain ⟨hk, h1, _⟩ := List.findIdx?_eq_some_iff_getElem.1 h
    exact .inr ⟨k, l[k], rfl, List.getElem?_eq_getElem hk, h1, hk⟩

/-- What a search answers: the first one, with a row of its own, or none. -/
def Found (B : Nat) (w' : World) (q : Cmp → Bool) (cs : List Cmp) (r : Ending) : Prop :=
  (∃ (k : Nat) (c : Cmp) (p : Option Addr) (z : Nat), idxI q cs = (k : Int) ∧ cs[k]? = some c ∧ q c = true ∧ r = .returned (.tuple #[.agg #[.int .i64 c.id, .string c.name, .slice p c.fs.length z], .bool true]) ∧ c.fs.length ≤ z ∧ w'.ownsRow B 41 3 (.slice p c.fs.length z) c.fs.length (c.fs.flatMap fcl)) ∨
  (idxI q cs = -1 ∧ r = .returned (.tuple #[.agg #[.int .i64 0, .string ⟨#[]⟩, .slice none 0 0], .bool false]))

end Go.Proofs.Ytkgkcnmnfhehfaa

namespace Go.Proofs.Ytkgkcnmnfhehfaa
open Go.RowKit Go.Proofs.Heap Go.Proofs.Sch

theorem results_tt {fn : Func} {p u : Tmp} (h : fn.results = #[.tmp p, .tmp u]) (tmps : Array Value) {P : Program} {w : World} : (results fn tmps).run P w = .ok (.tuple #[tmps.getD p undef, tmps.getD u undef]) w := by
  simp [results, h]

end Go.Proofs.Ytkgkcnmnfhehfaa

namespace Go.Proofs.Ytkgkcnmnfhehfaa
open Go.RowKit Go.Proofs.Heap Go.Proofs.Sch

theorem idx_any {α : Type} (q : α → Bool) (l : List α) : (∃ k : Nat, idxI q l = (k : Int)) → l.any q = true := by
  rintro ⟨k, hk⟩
  rcases idx_cases q l with h | ⟨i, x, _, hx, hq, _⟩
  · omega
  · exact List.any_eq_true.2 ⟨x, List.mem_of_getElem? hx, hq⟩
theorem idx_any_no {α : Type} (q : α → Bool) (l : List α) (h : idxI q l = -1) : l.any q = false := by
  rw [List.any_eq_false]
  intro x hx hq
  unfold idxI at h
  cases e : l.findIdx? q with
  | none => exact absurd hq (by simpa using (List.findIdx?_eq_none_iff.1 e) x hx)
  | some k => rw [e] at h; simp only at h; omega

/-- What is found where it must be found. -/
theorem found_at {B : Nat} {w' : World} {q : Cmp → Bool} {cs : List Cmp} {r : Ending} {k : Nat} {c : Cmp} (h : Found B w' q cs r) (hi : idxI q cs = (k : Int)) (hk : cs[k]? = some c) :
    ∃ (p : Option Addr) (z : Nat), r = .returned (.tuple #[.agg #[.int .i64 c.id, .string c.name, .slice p c.fs.length z], .bool true]) ∧ c.fs.length ≤ z ∧ FP w' w'.heap.size p c.fs := by
  rcases h with ⟨k', c', p, z, h1, h2, _, rfl, h4, h5⟩ | ⟨h1, _⟩
  · have : k = k' := by omega
    subst this
    rw [hk] at h2
    injection h2 with h2
    subst h2
    exact ⟨p, z, rfl, h4, fp_own rfl h5⟩
  · omega

end Go.Proofs.Ytkgkcnmnfhehfaa

namespace Go.Proofs.Ytkgkcnmnfhehfaa
open Go.RowKit Go.Proofs.Heap Go.Proofs.Sch

def nilC : Cmp := ⟨0, ⟨#[]⟩, []⟩
/-- The component of an id, or none. -/
def foundC (cs : List Cmp) (id : Int) : Cmp := if idxI (fun c : Cmp => decide (c.id = id)) cs < 0 then nilC else (cs[(idxI (fun c : Cmp => decide (c.id = id)) cs).toNat]?).getD nilC
theorem foundC_small {cs : List Cmp} (h : Small cs) (id : Int) : (foundC cs id).fs.length ≤ 4398046511104 := by
  unfold foundC
  split
  · simp [nilC]
  · cases e : cs[(idxI (fun c : Cmp => decide (c.id = id)) cs).toNat]? with
    | none => simp [nilC]
    | some c => exact h.2 c (List.mem_of_getElem? e)
end Go.Proofs.Ytkgkcnmnfhehfaa
