/- What is proved: what the reference's Get of bytes answers: the number, or that there is none. -/
import Derived.Test.YtkgkcnmnfhehfaaMRef05Law
import Derived.Test.YtkgkcnmnfhehfaaMBuilder
import Derived.Deep.Cut
import Derived.Deep.CutRange
import Derived.Deep.CutBlock
import Derived.Test.YtkgkcnmnfhehfaaMBox
import Derived.Test.YtkgkcnmnfhehfaaMWide2
import Derived.Test.YtkgkcnmnfhehfaaMHeap
import Derived.Laws.Rows
namespace Go.Proofs.Ytkgkcnmnfhehfaa
open Go.RowKit Go.Proofs.Heap Go.Proofs.Sch Go.Proofs.Wide

theorem leN_app : ∀ (l r : List UInt8), leN (l ++ r) = leN l + 256 ^ l.length * leN r
  | [], r => by simp [leN]
  | b :: l, r => by
    rw [List.cons_append, leN, leN_app l r, leN, List.length_cons, Nat.pow_succ, Nat.mul_add, Nat.add_assoc, ← Nat.mul_assoc, Nat.mul_comm 256 (256 ^ l.length)]
theorem firstN_all {s : ByteArray} {n : Nat} (h : s.size = n) : firstN s n = leN s.data.toList := by
  unfold firstN
  rw [List.take_of_length_le (by rw [Array.length_toList]; exact Nat.le_of_eq h)]
/-- The highest bit tells a number below nought. -/
theorem sign_bit {k : Int} {s : ByteArray} (hs : s.size = szN k) (hk : signK k = true) {b : UInt8} (hb : s.data.toList[szN k - 1]? = some b) : 127 < b.toNat ↔ greatN k < firstN s (szN k) := by
  have hl : s.data.toList.length = szN k := by rw [Array.length_toList]; exact hs
  rw [firstN_all hs]
  have h1 : s.data.toList = s.data.toList.take (szN k - 1) ++ [b] := by
    have h := take_next hb
    have hz : szN k - 1 + 1 = szN k := by have := (List.getElem?_eq_some_iff.1 hb).1; omega
    rw [hz, List.take_of_length_le (by omega)] at h
    exact h
  have h2 : (s.data.toList.take (szN k - 1)).length = szN k - 1 := by rw [List.length_take]; omega
  have h3 := leN_lt (s.data.toList.take (szN k - 1))
  rw [h1, leN_app]
  rw [h2] at h3 ⊢
  have h4 : leN [b] = b.toNat := by simp [leN]
  rw [h4]
  generalize leN (s.data.toList.take (szN k - 1)) = m at *
  clear h1 h2 h4 hl hb hs
  have := of_decide_eq_true hk
  have hk4 : k = 2 ∨ k = 3 ∨ k = 4 ∨ k = 5 := by omega
  rcases hk4 with rfl | rfl | rfl | rfl
  · have h3' : m < 1 := h3
    show 127 < b.toNat ↔ 127 < m + 1 * b.toNat
    omega
  · have h3' : m < 256 := h3
    show 127 < b.toNat ↔ 32767 < m + 256 * b.toNat
    omega
  · have h3' : m < 16777216 := h3
    show 127 < b.toNat ↔ 2147483647 < m + 16777216 * b.toNat
    omega
  · have h3' : m < 72057594037927936 := h3
    show 127 < b.toNat ↔ 9223372036854775807 < m + 72057594037927936 * b.toNat
    omega
theorem cmp_ge {a b : Int} (h : b ≤ a) : 0 ≤ cmpI a b := by
  unfold cmpI
  split
  · omega
  · rw [if_pos (by omega)]; omega
theorem cmp_le {a b : Int} (h : a ≤ b) : cmpI a b ≤ 0 := by
  unfold cmpI
  rw [if_neg (by omega)]
  split <;> omega
theorem fits_of {k : Int} {x : WI} (hk : kindB k = true) (hf : x.form = true) (h1 : (leastW k).val ≤ x.val) (h2 : x.val ≤ (greatN k : Int)) : fitsB k x = true := by
  unfold fitsB
  have hg : (greatW k).val = (greatN k : Int) := by simp [greatW, WI.val, WI.mag]
  rw [hk, hf, Bool.true_and, Bool.true_and, Bool.and_eq_true]
  refine ⟨decide_eq_true ?_, decide_eq_true ?_⟩
  · unfold cmpW; rw [if_pos ⟨hf, leastW_form k⟩]; exact cmp_ge h1
  · unfold cmpW; rw [if_pos ⟨hf, greatW_form k⟩]; exact cmp_le (by rw [hg]; exact h2)
theorem least_uns {k : Int} (h : signK k = false) : (leastW k).val = 0 := by unfold leastW; rw [h]; simp [WI.val, WI.mag]
theorem least_sgn {k : Int} (h : signK k = true) : (leastW k).val = -((greatN k + 1 : Nat) : Int) := by unfold leastW; rw [h]; simp [WI.val, WI.mag]
theorem great_uns {k : Int} (hk : kindB k = true) (hs : signK k = false) (h1 : k ≠ 1) : greatN k + 1 = 256 ^ szN k := by
  rcases kind_cases hk with rfl | rfl | rfl | rfl | rfl | rfl | rfl | rfl | rfl | rfl
  · exact absurd rfl h1
  · exact absurd hs (by decide)
  · exact absurd hs (by decide)
  · exact absurd hs (by decide)
  · exact absurd hs (by decide)
  all_goals decide +kernel
theorem great_sgn {k : Int} (hs : signK k = true) : 256 ^ szN k = (greatN k + 1) + (greatN k + 1) := by
  have := of_decide_eq_true hs
  have hk4 : k = 2 ∨ k = 3 ∨ k = 4 ∨ k = 5 := by omega
  rcases hk4 with rfl | rfl | rfl | rfl <;> decide +kernel
/-- Which bytes are a number. -/
theorem get_fits {k : Int} (hk : kindB k = true) (s : ByteArray) : fitsB k (getV k s) = !(decide (k = 1) && decide (1 < firstN s (szN k))) := by
  have hlt := firstN_lt s (szN k)
  cases hs : signK k
  · have hv : getV k s = ⟨false, 0, firstN s (szN k)⟩ := by unfold getV; rw [hs, if_neg (fun h => by cases h.1)]
    rw [hv]
    have hval : (WI.mk false 0 (firstN s (szN k))).val = (firstN s (szN k) : Int) := by simp [WI.val, WI.mag]
    by_cases h1 : k = 1
    · by_cases h2 : 1 < firstN s (szN k)
      · rw [decide_eq_true h1, decide_eq_true h2]
        cases hf : fitsB k ⟨false, 0, firstN s (szN k)⟩
        · rfl
        · have h3 := (fits_pos hf rfl).2
          simp only at h3
          have h4 : greatN k = 1 := by rw [h1]; rfl
          omega
      · rw [decide_eq_false h2, Bool.and_false]
        refine fits_of hk (pos_form _) ?_ ?_
        · rw [least_uns hs, hval]; omega
        · have h4 : greatN k = 1 := by rw [h1]; rfl
          rw [hval, h4]; omega
    · rw [decide_eq_false h1, Bool.false_and]
      have h3 := great_uns hk hs h1
      refine fits_of hk (pos_form _) ?_ ?_
      · rw [least_uns hs, hval]; omega
      · rw [hval]; omega
  · have h1 : k ≠ 1 := by rintro rfl; exact absurd hs (by decide)
    rw [decide_eq_false h1, Bool.false_and]
    have h3 := great_sgn hs
    unfold getV
    by_cases h : greatN k < firstN s (szN k)
    · rw [if_pos ⟨hs, h⟩]
      have hval : (WI.mk true 0 (256 ^ szN k - firstN s (szN k))).val = -((256 ^ szN k - firstN s (szN k) : Nat) : Int) := by simp [WI.val, WI.mag]
      refine fits_of hk ?_ ?_ ?_
      · unfold WI.form WI.mag
        simp only [Nat.zero_mul, Nat.zero_add, Bool.not_true, Bool.false_or, Bool.and_eq_true]
        exact ⟨decide_eq_true (by omega : (0 : Nat) < 9223372036854775808), decide_eq_true (by omega)⟩
      · rw [least_sgn hs, hval]; omega
      · rw [hval]; omega
    · rw [if_neg (fun hh => h hh.2)]
      have hval : (WI.mk false 0 (firstN s (szN k))).val = (firstN s (szN k) : Int) := by simp [WI.val, WI.mag]
      refine fits_of hk (pos_form _) ?_ ?_
      · rw [least_sgn hs, hval]; omega
      · rw [hval]; omega

set_option maxRecDepth 20000 in
set_option maxHeartbeats 8000000 in
theorem r_get (k : Int) (hkd : kindB k = true) (s : ByteArray) (hs : s.size = szN k) (w : World) (hz1 : 1 ≤ szN k) : Calls Try.prog 38 #[.int .i64 k, .string s] w fun r w' =>
    r = .returned (.tuple #[WV (if fitsB k (getV k s) = true then getV k s else ⟨false, 0, 0⟩), .bool (fitsB k (getV k s))]) ∧ Keep (fun _ => False) w w' := by
  have HFT := hid (get_fits hkd s)
  have HSG := hid (fun h b hb => sign_bit (b := b) hs h hb)
  have HZ8 := hid (sz_le k)
  have HGV : Hid (getV k s = if signK k = true ∧ greatN k < firstN s (szN k) then ⟨true, 0, 256 ^ szN k - firstN s (szN k)⟩ else ⟨false, 0, firstN s (szN k)⟩) := hid rfl
  have hfl := firstN_lt s (szN k)
  have hfa := firstN_all hs
  have hk10 : 1 ≤ k ∧ k ≤ 10 := of_decide_eq_true hkd
  have HSC := hid (sz_cast k)
  have hsd : s.data.toList.length = szN k := by rw [Array.length_toList]; exact hs
  have HSD := hid hsd
  generalize hz : szN k = z at *
  generalize hn : firstN s z = n at *
  generalize hR : getV k s = R at *
  generalize hF : fitsB k R = F at *
  have HFL := hid hfl; have HFA := hid hfa; have HK10 := hid hk10; have HZ := hid hz; have HS := hid hs
  have hz8 := HZ8.out
  clear hfl hfa hk10 hn hz hkd hsd hR hF
  go_enter Try.func38, Try.ntmps38
  obtain ⟨w1, hw1, hb1, hs1, hk1⟩ := box1 w Z3 57
  have HB1 := hid hb1; have HK1 := hid hk1
  clear hb1 hs1 hk1
  go_upto_region 1 with fail
  rw [← hw1]
  clear hw1
  generalize hrb : w.heap.size = rb at *
  have HRB : Hid (w.heap.size ≤ rb) := hid (Nat.le_of_eq hrb)
  clear hrb
  go_wp2_with fail
  refine (r_bytes k _).mono ?_
  rintro r w2 ⟨rfl, hk2⟩
  have HK2 := hid (HK1.out.trans hk2); have HB2 := hid (hk2.get HB1.out id)
  clear hk2
  rw [HSC.out]
  have g1 : ((s.size : Int) != (z : Int)) = false := by rw [hs]; simp
  have g2 : (s.size != z) = false := by rw [hs]; simp
  have g3 : ((s.size : Int) == 0) = false := beq_eq_false_iff_ne.2 (by omega)
  have g4 : (s.size == 0) = false := beq_eq_false_iff_ne.2 (by omega)
  go_wp2_with fail
  clear g1 g2 g3 g4
  go_loopw [6, 7] (fun m i wr => ∃ j : Nat, j ≤ z ∧ i = .int .i64 ((j : Int) - 1) ∧ m = .int .u64 (leN (s.data.toList.drop j) : Int) ∧ w2 = wr) (fun _ i _ => ((intOf i) + 1).toNat)
  case atStart => exact ⟨z, Nat.le_refl _, rfl, by rw [List.drop_of_length_le (Nat.le_of_eq HSD.out)]; rfl, rfl⟩
  case round =>
    obtain ⟨j', hj, rfl, rfl, rfl⟩ := hrel
    by_cases hj0 : j' = 0
    rotate_left
    · obtain ⟨j, rfl⟩ : ∃ j, j' = j + 1 := ⟨j' - 1, by omega⟩
      have e1 : (((j + 1 : Nat) : Int) - 1) = (j : Int) := by omega
      rw [e1]
      have hjs : j < s.size := by omega
      have g1 : decide ((0 : Int) ≤ (j : Int)) = true := decide_eq_true (by omega)
      have hlm : leN (s.data.toList.drop (j + 1)) < 72057594037927936 := by
        have h1 := leN_lt (s.data.toList.drop (j + 1))
        have h2 : (s.data.toList.drop (j + 1)).length ≤ 7 := by rw [List.length_drop, HSD.out]; omega
        exact Nat.lt_of_lt_of_le h1 (pow_le h2)
      have hst : leN (s.data.toList.drop j) = (s[j]'hjs).toNat + 256 * leN (s.data.toList.drop (j + 1)) := by
        have h1 : s.data.toList[j]? = some (s[j]'hjs) := by
          rw [Array.getElem?_toList]
          exact Array.getElem?_eq_getElem hjs
        rw [drop_next h1, leN]
      obtain ⟨bt, hbt⟩ : ∃ bt, (s[j]'hjs).toNat = bt := ⟨_, rfl⟩
      have hb256 : bt < 256 := by rw [← hbt]; exact (s[j]'hjs).toNat_lt
      rw [hbt] at hst
      have HST := hid hst
      clear hst
      generalize leN (s.data.toList.drop (j + 1)) = m at *
      have hwb : IntKind.u64.wrap (bt : Int) = (bt : Int) := wraps64 _ (by omega) (by omega)
      have hw1 : IntKind.u64.wrap ((m : Int) * 256) = (m : Int) * 256 := wraps64 _ (by omega) (by omega)
      have hw2 : IntKind.u64.wrap ((m : Int) * 256 + (bt : Int)) = (m : Int) * 256 + (bt : Int) := wraps64 _ (by omega) (by omega)
      have hin : (0 : Int) ≤ (j : Int) ∧ (j : Int) < (s.size : Int) := ⟨by omega, by omega⟩
      go_wp2
      go_roundw
      case rel => exact ⟨j, by omega, by go_num, by rw [HST.out]; congr 1; omega, by first | rfl | trivial⟩
      case measure => simp [intOf]
    subst hj0
    have g1 : decide ((0 : Int) ≤ -1) = false := by decide
    rw [List.drop_zero, ← HFA.out, show (((0 : Nat) : Int) - 1) = (-1 : Int) from rfl]
    obtain ⟨w3, hw3, hb3, hs3, hk3⟩ := box1 w2 #[.bool false, .int .u64 0, .int .u64 (n : Int)] 57
    have HB3 := hid hb3; have HK3 := hid (HK2.out.trans hk3); have HR3 := hid (hk3.get HB2.out id)
    have HNE : Hid (rb < w2.heap.size) := hid (lt_of_heap HB2.out)
    clear hb3 hs3 hk3
    go_upto_region 9 with fail
    rw [← hw3]
    clear hw3 g1
    generalize w2.heap.size = xb at *
    obtain ⟨b, hb⟩ : ∃ b, s.data.toList[z - 1]? = some b := ⟨s.data.toList[z - 1]'(by rw [HSD.out]; omega), by rw [List.getElem?_eq_getElem]⟩
    have HB := hid hb
    have hjs : z - 1 < s.size := by omega
    have hbt : s[z - 1]'hjs = b := by
      have h1 : s.data.toList[z - 1]? = some (s[z - 1]'hjs) := by
        rw [Array.getElem?_toList]
        exact Array.getElem?_eq_getElem hjs
      rw [hb] at h1
      injection h1 with h1
      exact h1.symm
    have HSB : Hid (signK k = true → (127 < b.toNat ↔ greatN k < n)) := hid (fun h => HSG.out h b HB.out)
    have hin : (0 : Int) ≤ (z : Int) - 1 ∧ (z : Int) - 1 < (s.size : Int) := ⟨by omega, by omega⟩
    have hto : ((z : Int) - 1).toNat = z - 1 := by omega
    clear hb
    obtain ⟨q, hq⟩ : ∃ q : Bool, (signK k && decide (127 < b.toNat)) = q := ⟨_, rfl⟩
    have HQ := hid hq
    go_cut [51] from 11 to 51 (fun v wx => v = .bool q ∧ w3 = wx)
    case first =>
      by_cases c1 : 2 ≤ k
      · have g1 : decide (2 ≤ k) = true := decide_eq_true c1
        by_cases c2 : k ≤ 5
        · have g2 : decide (k ≤ 5) = true := decide_eq_true c2
          go_wp2
          go_meet
          case rel =>
            have hsk : signK k = true := by unfold signK; exact decide_eq_true ⟨c1, c2⟩
            rw [← HQ.out, hsk, Bool.true_and]
            exact ⟨by congr 1; exact decide_eq_decide.2 (by omega), rfl⟩
        · have g2 : decide (k ≤ 5) = false := decide_eq_false c2
          go_wp2
          go_meet
          case rel =>
            have hsk : signK k = false := by unfold signK; exact decide_eq_false (fun h => by omega)
            rw [← HQ.out, hsk]
            exact ⟨rfl, rfl⟩
      · have g1 : decide (2 ≤ k) = false := decide_eq_false c1
        go_wp2
        go_meet
        case rel =>
          have hsk : signK k = false := by unfold signK; exact decide_eq_false (fun h => by omega)
          rw [← HQ.out, hsk]
          exact ⟨rfl, rfl⟩
    case rest =>
    obtain ⟨rfl, rfl⟩ := hcut
    have HV : Hid (R = if q = true then ⟨true, 0, 256 ^ z - n⟩ else ⟨false, 0, n⟩) := hid (by
      rw [HGV.out, ← HQ.out]
      cases hsk : signK k
      · rw [if_neg (fun h => by cases h.1)]; rfl
      · have h2 := HSB.out hsk
        by_cases h3 : greatN k < n
        · rw [if_pos ⟨rfl, h3⟩, if_pos (by rw [Bool.true_and]; exact decide_eq_true (h2.2 h3))]
        · rw [if_neg (fun h => h3 h.2), if_neg (fun h => h3 (h2.1 (of_decide_eq_true (by rw [Bool.true_and] at h; exact h))))])
    have HQ1 : Hid (q = true → 1 ≤ n) := hid (fun h => by
      rw [← HQ.out, Bool.and_eq_true] at h
      have h2 := (HSB.out h.1).1 (of_decide_eq_true h.2)
      omega)
    clear hq HQ hto hin hbt
    go_upto_if 51 with fail
    go_cut [9, 10] from 11 to 66 (fun _ _ wx => wx.heap[rb]? = some (.cells Z3 57 (0, 0)) ∧ wx.heap[xb]? = some (.cells (WC R) 57 (0, 0)) ∧ Keep (fun _ => False) w wx)
    case first =>
      cases q
      · have hrv : R = ⟨false, 0, n⟩ := by rw [HV.out]; rfl
        go_wp2
        go_meet
        case rel => exact ⟨HR3.out, by rw [hrv]; exact HB3.out, HK3.out⟩
      · have hrv : R = ⟨true, 0, 256 ^ z - n⟩ := by rw [HV.out]; rfl
        have HRV := hid hrv
        have HN1 := hid (HQ1.out rfl)
        clear hrv
        have c0 : w3.cell? ⟨xb, 0, none⟩ = some (.bool false) := cell_of HB3.out (by rfl)
        have c1 : w3.cell? ⟨xb, 1, none⟩ = some (.int .u64 0) := cell_of HB3.out (by rfl)
        have c2 : w3.cell? ⟨xb, 2, none⟩ = some (.int .u64 (n : Int)) := cell_of HB3.out (by rfl)
        have f0 : w3.frozen? ⟨xb, 0, none⟩ = false := free_of HB3.out 0
        have f1 : w3.frozen? ⟨xb, 1, none⟩ = false := free_of HB3.out 1
        have f2 : w3.frozen? ⟨xb, 2, none⟩ = false := free_of HB3.out 2
        by_cases hz7 : z < 8
        · have g1 : decide ((s.size : Int) < 8) = true := decide_eq_true (by omega)
          have g2 : decide (s.size < 8) = true := decide_eq_true (by omega)
          have g3 : decide ((z : Int) < 8) = true := decide_eq_true (by omega)
          have g4 : decide (z < 8) = true := decide_eq_true (by omega)
          go_wp2_with fail
          clear g1 g2 g3 g4
          go_loopw [9, 10] (fun t i wr => ∃ j : Nat, j ≤ z ∧ i = iV j ∧ t = .int .u64 ((256 ^ j : Nat) : Int) ∧ w3 = wr) (fun _ i _ => z + 1 - (intOf i).toNat)
          case atStart => exact ⟨0, Nat.zero_le _, rfl, rfl, rfl⟩
          case round =>
            obtain ⟨j, hj, rfl, rfl, rfl⟩ := hrel
            by_cases hlt : j < z
            · have hp1 : 256 ^ (j + 1) ≤ 256 ^ 7 := pow_le (by omega)
              have hp2 : (256 : Nat) ^ 7 = 72057594037927936 := by decide
              have hp3 : 256 ^ (j + 1) = 256 ^ j * 256 := Nat.pow_succ ..
              generalize hP : 256 ^ j = P at *
              have hwm : IntKind.u64.wrap ((P : Int) * 256) = (P : Int) * 256 := wraps64 _ (by omega) (by omega)
              have g1 : decide ((j : Int) < (z : Int)) = true := decide_eq_true (by omega)
              have g2 : decide (j < z) = true := decide_eq_true hlt
              have HP3 := hid hp3
              clear hp1 hp2 hp3
              go_wp2
              go_roundw
              case rel => exact ⟨j + 1, by omega, by go_num, by rw [HP3.out]; go_num, by first | rfl | trivial⟩
              case measure => simp [intOf]; omega
            · obtain rfl : j = z := by omega
              have g1 : decide ((j : Int) < (j : Int)) = false := decide_eq_false (by omega)
              have g2 : decide (j < j) = false := decide_eq_false (by omega)
              have hfl := HFL.out
              have hp1 : 256 ^ j ≤ 256 ^ 7 := pow_le (by omega)
              have hp2 : (256 : Nat) ^ 7 = 72057594037927936 := by decide
              generalize hP : 256 ^ j = P at *
              have hwm : IntKind.u64.wrap ((P : Int) - (n : Int)) = ((P - n : Nat) : Int) := by rw [wraps64 _ (by omega) (by omega)]; omega
              clear hp1 hp2
              go_wp2
              go_meet
              case rel =>
                rw [HRV.out]
                have hne : rb ≠ xb := by have := HNE.out; omega
                have a2 := hsc_same (hsc_same (hsc_same HB3.out 0 (.bool true)) 1 (.int .u64 0)) 2 (.int .u64 ((P - n : Nat) : Int))
                refine ⟨?_, (by show _ = some (Obj.cells #[.bool true, .int .u64 ((0 : Nat) : Int), .int .u64 ((P - n : Nat) : Int)] _ (0, 0)); simpa using a2), ?_⟩
                · rw [hsc_ne _ hne, hsc_ne _ hne, hsc_ne _ hne]; exact HR3.out
                · have hx : w.heap.size ≤ xb := by have := HRB.out; have := HNE.out; omega
                  exact ((HK3.out.setCell_new hx _).setCell_new hx _).setCell_new hx _
        · obtain rfl : z = 8 := by omega
          have hfl := HFL.out
          have hp8 : (256 : Nat) ^ 8 = 18446744073709551616 := by decide
          rw [hp8] at hfl
          have hn1 := HN1.out
          have hwm : IntKind.u64.wrap (-(n : Int)) = ((18446744073709551616 - n : Nat) : Int) := by rw [wrap_neg n (by omega), Nat.mod_eq_of_lt (by omega)]
          go_wp2
          go_meet
          case rel =>
            rw [HRV.out]
            have hne : rb ≠ xb := by have := HNE.out; omega
            have a2 := hsc_same (hsc_same (hsc_same HB3.out 0 (.bool true)) 1 (.int .u64 0)) 2 (.int .u64 ((256 ^ 8 - n : Nat) : Int))
            refine ⟨?_, (by show _ = some (Obj.cells #[.bool true, .int .u64 ((0 : Nat) : Int), .int .u64 ((256 ^ 8 - n : Nat) : Int)] _ (0, 0)); simpa using a2), ?_⟩
            · rw [hsc_ne _ hne, hsc_ne _ hne, hsc_ne _ hne]; exact HR3.out
            · have hx : w.heap.size ≤ xb := by have := HRB.out; have := HNE.out; omega
              exact ((HK3.out.setCell_new hx _).setCell_new hx _).setCell_new hx _
    case rest =>
    obtain ⟨hr4, hx4, hk4⟩ := hcut
    have HR4 := hid hr4; have HX4 := hid hx4; have HK4 := hid hk4
    clear hr4 hx4 hk4 HNE HB3 HR3 HK3 HV HQ1
    have hft := HFT.out
    have c0 : wc.cell? ⟨xb, 0, none⟩ = some (.bool R.neg) := cell_of HX4.out (by rfl)
    have c1 : wc.cell? ⟨xb, 1, none⟩ = some (.int .u64 (R.hi : Int)) := cell_of HX4.out (by rfl)
    have c2 : wc.cell? ⟨xb, 2, none⟩ = some (.int .u64 (R.lo : Int)) := cell_of HX4.out (by rfl)
    have f0 : wc.frozen? ⟨rb, 0, none⟩ = false := free_of HR4.out 0
    have f1 : wc.frozen? ⟨rb, 1, none⟩ = false := free_of HR4.out 1
    have f2 : wc.frozen? ⟨rb, 2, none⟩ = false := free_of HR4.out 2
    have d0 : wc.cell? ⟨rb, 0, none⟩ = some (.bool false) := cell_of HR4.out (by rfl)
    have d1 : wc.cell? ⟨rb, 1, none⟩ = some (.int .u64 0) := cell_of HR4.out (by rfl)
    have d2 : wc.cell? ⟨rb, 2, none⟩ = some (.int .u64 0) := cell_of HR4.out (by rfl)
    by_cases h1 : k = 1
    · have g1 : (k == 1) = true := beq_iff_eq.2 h1
      by_cases h2 : 1 < n
      · have g2 : decide ((1 : Int) < (n : Int)) = true := decide_eq_true (by omega)
        have g3 : decide (1 < n) = true := decide_eq_true h2
        rw [decide_eq_true h1, g3] at hft
        subst hft
        go_wp2
        (try simp only [Exit.inBlock, Exit.then])
        refine bodyPost_ret (results_ct rfl _ rfl (run_loadVar_row _ rb _ 57 _ _ _ (cells3 (.bool false) (.int .u64 0) (.int .u64 0) HR4.out) Try.underlying57 rfl (by kernel_rfl))) rfl ?_
        exact ⟨rfl, ((HK4.out.setCell_new HRB.out _).setCell_new HRB.out _).setCell_new HRB.out _⟩
      · have g2 : decide ((1 : Int) < (n : Int)) = false := decide_eq_false (by omega)
        have g3 : decide (1 < n) = false := decide_eq_false h2
        rw [g3, Bool.and_false] at hft
        subst hft
        go_wp2
        (try simp only [Exit.inBlock, Exit.then])
        refine bodyPost_ret (results_ct rfl _ rfl (run_loadVar_row _ rb _ 57 _ _ _ (cells3 (.bool R.neg) (.int .u64 (R.hi : Int)) (.int .u64 (R.lo : Int)) HR4.out) Try.underlying57 rfl (by kernel_rfl))) rfl ?_
        exact ⟨rfl, ((HK4.out.setCell_new HRB.out _).setCell_new HRB.out _).setCell_new HRB.out _⟩
    · have g1 : (k == 1) = false := beq_eq_false_iff_ne.2 h1
      rw [decide_eq_false h1] at hft
      subst hft
      go_wp2
      (try simp only [Exit.inBlock, Exit.then])
      refine bodyPost_ret (results_ct rfl _ rfl (run_loadVar_row _ rb _ 57 _ _ _ (cells3 (.bool R.neg) (.int .u64 (R.hi : Int)) (.int .u64 (R.lo : Int)) HR4.out) Try.underlying57 rfl (by kernel_rfl))) rfl ?_
      exact ⟨rfl, ((HK4.out.setCell_new HRB.out _).setCell_new HRB.out _).setCell_new HRB.out _⟩
end Go.Proofs.Ytkgkcnmnfhehfaa

namespace Go.Proofs.Ytkgkcnmnfhehfaa
open Go.RowKit Go.Proofs.Heap Go.Proofs.Sch

theorem results_t4 {fn : Func} {p u q v : Tmp} (h : fn.results = #[.tmp p, .tmp u, .tmp q, .tmp v]) (tmps : Array Value) {P : Program} {w : World} : (results fn tmps).run P w = .ok (.tuple #[tmps.getD p undef, tmps.getD u undef, tmps.getD q undef, tmps.getD v undef]) w := by
  simp [results, h]

/-- What Lay answers: nothing and the error, or the elements, the row's size, where fields begin. -/
def LayR (w : World) (fs : List Fld) (r : Ending) (w' : World) : Prop :=
  (layC fs ≠ 0 ∧ r = .returned (.tuple #[.slice none 0 0, .int .i64 0, .slice none 0 0, iV (layC fs)])) ∨
  (layC fs = 0 ∧ ∃ p c q d, r = .returned (.tuple #[.slice p (eRun fs).length c, iV (pSize fs), .slice q (pRun fs).2.2.length d, iV 0]) ∧ LY w (.slice p (eRun fs).length c) (.slice q (pRun fs).2.2.length d) (eRun fs) (pRun fs).2.2 w')

theorem lay_bad {fs : List Fld} {f : Fld} (hf : f ∈ fs) (h : ¬ okF f) : layC fs = 1 := by
  unfold layC
  by_cases h1 : 8 < fs.length
  · rw [if_pos h1]
  · rw [if_neg h1, if_neg (fun hh => h (hh f hf))]
theorem lay_long {fs : List Fld} (h : 8 < fs.length) : layC fs = 1 := by unfold layC; rw [if_pos h]
theorem lay_big {fs : List Fld} (h1 : ¬ 8 < fs.length) (h2 : ∀ f ∈ fs, okF f) (h3 : 256 < pSize fs) : layC fs = 5 := by unfold layC; rw [if_neg h1, if_pos h2, if_pos h3]
theorem lay_good {fs : List Fld} (h1 : ¬ 8 < fs.length) (h2 : ∀ f ∈ fs, okF f) (h3 : ¬ 256 < pSize fs) : layC fs = 0 := by unfold layC; rw [if_neg h1, if_pos h2, if_neg h3]

set_option maxRecDepth 20000 in
set_option maxHeartbeats 8000000 in
theorem r_lay (fs : List Fld) (p : Option Addr) (cap : Nat) (w : World) (hf : FP w w.heap.size p fs) :
    Calls Try.prog 21 #[.slice p fs.length cap] w fun r w' => LayR w fs r w' ∧ Keep (fun _ => False) w w' := by
  obtain ⟨i0, hi0, hz0, hz1, hz2⟩ := info_parts' info_int
  obtain ⟨i1, hi1, hy0, hy1, hy2⟩ := info_parts' info_elem
  have HF := hid hf
  clear hf
  go_enter Try.func21, Try.ntmps21
  by_cases hl : 8 < fs.length
  · have g1 : decide ((8 : Int) < (fs.length : Int)) = true := decide_eq_true (by omega)
    have g2 : decide (8 < fs.length) = true := decide_eq_true hl
    have G := hid (lay_long hl)
    clear hl
    go_wp2
    (try simp only [Exit.inBlock, Exit.then])
    refine bodyPost_ret (results_t4 rfl _) rfl ?_
    exact ⟨.inl ⟨by rw [G.out]; decide, by rw [G.out]; rfl⟩, Keep.refl _ _⟩
  have g1 : decide ((8 : Int) < (fs.length : Int)) = false := decide_eq_false (by omega)
  have g2 : decide (8 < fs.length) = false := decide_eq_false hl
  have HL := hid hl
  have hL8 : fs.length ≤ 8 := by omega
  clear hl
  have hY0 : LY w (.slice (some ⟨w.heap.size, 0, none⟩) 0 0) (.slice (some ⟨w.heap.size + 1, 0, none⟩) 0 0) [] [] ((w.alloc (.cells #[] 66)).alloc (.cells #[] 3)) := by
    have hs : (w.alloc (.cells #[] 66)).heap.size = w.heap.size + 1 := by simp
    have hb6 := ((Keep.refl (fun _ => False) (w.alloc (.cells #[] 66))).alloc (.cells #[] 3)).get (heap_alloc_new w _) id
    have hb7 := heap_alloc_new (w.alloc (.cells #[] 66)) (.cells #[] 3)
    rw [hs] at hb7
    exact ⟨((Keep.refl _ w).alloc _).alloc _, ⟨rfl, .inr ⟨w.heap.size, 0, #[], rfl, Nat.le_refl _, hb6, Nat.le_refl _, by unfold maxLen; omega, rfl, rfl⟩⟩, ⟨rfl, .inr ⟨w.heap.size + 1, 0, #[], rfl, by omega, hb7, Nat.le_refl _, by unfold maxLen; omega, rfl, rfl⟩⟩, fun g h1 h2 => by simp [Value.ownBlock] at h1 h2; omega⟩
  have HY0 := hid hY0
  clear hY0
  go_wp2_with fail
  clear g1 g2
  go_loopw [6, 7, 8, 9, 10, 11, 12, 13] (fun o s a g i _ _ _ wr => ∃ k : Nat, k ≤ fs.length ∧ i = iV k ∧ a = iV (pRun (fs.take k)).1 ∧ g = iV (pRun (fs.take k)).2.1 ∧ ((pRun (fs.take k)).1 ≤ 71 * k ∧ 1 ≤ (pRun (fs.take k)).2.1 ∧ (pRun (fs.take k)).2.1 ≤ 8) ∧ ((pRun (fs.take k)).2.2.length = k ∧ (eRun (fs.take k)).length ≤ 8 * k) ∧ (∀ f ∈ fs.take k, okF f) ∧ LY w o s (eRun (fs.take k)) (pRun (fs.take k)).2.2 wr) (fun _ _ _ _ i _ _ _ _ => fs.length + 1 - (intOf i).toNat)
  case atStart => exact ⟨0, Nat.zero_le _, rfl, rfl, rfl, ⟨by simp [pRun], by simp [pRun], by simp [pRun]⟩, ⟨by simp [pRun], by simp [eRun]⟩, by simp, HY0.out⟩
  case round =>
    clear HY0
    obtain ⟨k, hk, rfl, rfl, rfl, ⟨hb1, hb2, hb3⟩, ⟨hln, hle8⟩, hall, hY⟩ := hrel
    obtain ⟨op, oc, rfl⟩ := owns_val hY.o6
    obtain ⟨sp, sc, rfl⟩ := owns_val hY.o7
    have HY := hid hY; have HLN := hid hln; have HLE := hid hle8; have HALL := hid hall
    clear hY hln hle8 hall
    by_cases hlt : k < fs.length
    · obtain ⟨f, hfk⟩ : ∃ f, fs[k]? = some f := ⟨fs[k], by simp [hlt]⟩
      have HBAD := hid (fun h => lay_bad (List.mem_of_getElem? hfk) h : ¬ okF f → layC fs = 1)
      have HNX := hid (pRun_next hfk)
      have HEX := hid (eRun_next hfk)
      have HNA : Hid (okF f → ∀ d ∈ fs.take (k + 1), okF d) := hid (fun hc d hd => by
        rw [take_next hfk] at hd
        rcases List.mem_append.1 hd with h | h
        · exact HALL.out d h
        · rw [List.mem_singleton.1 h]; exact hc)
      have HSL : Hid (okF f → (pStep (pRun (fs.take k)) f).1 ≤ 71 * k + 71 ∧ (1 ≤ (pStep (pRun (fs.take k)) f).2.1 ∧ (pStep (pRun (fs.take k)) f).2.1 ≤ 8)) := hid (fun hok => pStep_le (m := 71 * k) hb1 ⟨hb2, hb3⟩ hok)
      have hfp := FP.low HF.out (Low.of_keep HY.out.keep (Nat.le_refl _) (fun _ h => h.elim))
      obtain ⟨b, off, rfl, hb, c0, c1, c2⟩ := FP.at hfp hfk
      have hin : (0 : Int) ≤ (k : Int) ∧ (k : Int) < (fs.length : Int) := ⟨by omega, by omega⟩
      obtain ⟨nm, kd, ct⟩ := f
      simp only at c0 c1 c2
      have HB0 := hid (HY.out.newBox ⟨nm, kd, ct⟩)
      have HY1 := hid (HY.out.keep0 ((Keep.refl (fun _ => False) wr).alloc (.cells #[.string nm, .int .i64 kd, .int .i64 ct] 41)))
      have hs8 := sz_le kd
      clear hfk hfp
      go_upto_region 11 with fail
      simp only at HB0
      generalize wr.alloc (.cells #[.string nm, .int .i64 kd, .int .i64 ct] 41) = w1 at *
      generalize wr.heap.size = bx at *
      clear c0 c1 c2 hb HY
      have d1 : w1.cell? ⟨bx, 1, none⟩ = some (.int .i64 kd) := cell_of HB0.out.box (by rfl)
      go_wp2_with fail
      refine (r_bytes kd _).mono ?_
      rintro r w2 ⟨rfl, hk2⟩
      have HY2 := hid (HY1.out.keep0 hk2)
      have HB2 := hid (HB0.out.keep0 hk2)
      rw [sz_cast]
      clear hk2 d1 HY1 HB0
      have HOK : Hid (okF ⟨nm, kd, ct⟩ ↔ (1 ≤ szN kd ∧ 1 ≤ ct ∧ ct ≤ 8)) := hid Iff.rfl
      have d2 : w2.cell? ⟨bx, 2, none⟩ = some (.int .i64 ct) := cell_of HB2.out.box (by rfl)
      by_cases hz : szN kd = 0
      · have g1 : ((szN kd : Int) == 0) = true := beq_iff_eq.2 (by omega)
        have g2 : (szN kd == 0) = true := beq_iff_eq.2 hz
        have G := hid (HBAD.out (fun h => by have := HOK.out.1 h; omega))
        clear hz
        generalize szN kd = n at *
        go_wp2
        (try simp only [Exit.inBlock, Exit.then])
        refine bodyPost_ret (results_t4 rfl _) rfl ?_
        exact ⟨.inl ⟨by rw [G.out]; decide, by rw [G.out]; rfl⟩, HY2.out.keep⟩
      have hn1 : 1 ≤ szN kd := by omega
      generalize hsz : szN kd = n at *
      have g1 : ((n : Int) == 0) = false := beq_eq_false_iff_ne.2 (by omega)
      have g2 : (n == 0) = false := beq_eq_false_iff_ne.2 hz
      by_cases hc1 : ct < 1
      · have g3 : decide (ct < 1) = true := decide_eq_true hc1
        have G := hid (HBAD.out (fun h => by have := HOK.out.1 h; omega))
        clear hc1
        go_wp2
        (try simp only [Exit.inBlock, Exit.then])
        refine bodyPost_ret (results_t4 rfl _) rfl ?_
        exact ⟨.inl ⟨by rw [G.out]; decide, by rw [G.out]; rfl⟩, HY2.out.keep⟩
      have g3 : decide (ct < 1) = false := decide_eq_false hc1
      by_cases hc8 : 8 < ct
      · have g4 : decide (8 < ct) = true := decide_eq_true hc8
        have G := hid (HBAD.out (fun h => by have := HOK.out.1 h; omega))
        clear hc8
        go_wp2
        (try simp only [Exit.inBlock, Exit.then])
        refine bodyPost_ret (results_t4 rfl _) rfl ?_
        exact ⟨.inl ⟨by rw [G.out]; decide, by rw [G.out]; rfl⟩, HY2.out.keep⟩
      have g4 : decide (8 < ct) = false := decide_eq_false hc8
      obtain ⟨cn, rfl⟩ := Int.eq_ofNat_of_zero_le (a := ct) (by omega)
      have hcn : 1 ≤ cn ∧ cn ≤ 8 := by omega
      have HG := hid (HOK.out.2 ⟨hn1, by omega, by omega⟩)
      have HG1 := hid (HNA.out HG.out)
      have HSTEP : Hid (pStep (pRun (fs.take k)) ⟨nm, kd, (cn : Int)⟩ = (upN (pRun (fs.take k)).1 n + n * cn, max (pRun (fs.take k)).2.1 n, (pRun (fs.take k)).2.2 ++ [upN (pRun (fs.take k)).1 n])) := hid (by rw [← hsz]; rfl)
      have HES : Hid (eRun (fs.take (k + 1)) = eRun (fs.take k) ++ eAdd kd (upN (pRun (fs.take k)).1 n) n cn) := hid (by rw [HEX.out]; rfl)
      have HSL1 := hid (HSL.out HG.out)
      clear HNA HBAD HOK HEX HSL hz hc1 hc8
      generalize eRun (fs.take k) = es at *
      generalize pRun (fs.take k) = st at *
      obtain ⟨at_, gr, ss⟩ := st
      simp only at hb1 hb2 hb3 HSTEP HLN HY2 HLE
      have hup := up_le at_ n hn1
      have hge := upN_ge (a := at_) hn1
      go_upto_if 46 with fail
      clear g1 g2 g3 g4 d2
      go_cut [9] from 19 to 73 (fun g wx => g = iV (max gr n) ∧ w2 = wx)
      case first =>
        by_cases hgn : gr < n
        · have g1 : decide ((gr : Int) < (n : Int)) = true := decide_eq_true (by omega)
          have g2 : decide (gr < n) = true := decide_eq_true hgn
          have G := hid (Nat.max_eq_right (Nat.le_of_lt hgn))
          go_wp2
          go_meet
          case rel => exact ⟨by rw [G.out], rfl⟩
        · have g1 : decide ((gr : Int) < (n : Int)) = false := decide_eq_false (by omega)
          have g2 : decide (gr < n) = false := decide_eq_false hgn
          have G := hid (Nat.max_eq_left (Nat.le_of_not_lt hgn))
          go_wp2
          go_meet
          case rel => exact ⟨by rw [G.out], rfl⟩
      case rest =>
      obtain ⟨rfl, rfl⟩ := hcut
      generalize hmx : max gr n = mg at *
      go_wp2_with fail
      have HGE := hid hge
      go_loopw [8] (fun a wy => ∃ x : Nat, a = iV x ∧ at_ ≤ x ∧ x ≤ upN at_ n ∧ w2 = wy) (fun a _ => upN at_ n + 1 - (intOf a).toNat)
      case atStart => exact ⟨at_, rfl, Nat.le_refl _, HGE.out, rfl⟩
      case round =>
        obtain ⟨x, rfl, hx1, hx2, rfl⟩ := hrel
        have hzz : ((n : Int) == 0) = false := beq_eq_false_iff_ne.2 (by omega)
        have hmo : ((x : Int).tmod (n : Int)) = ((x % n : Nat) : Int) := by rw [Int.tmod_eq_emod_of_nonneg (by omega)]; exact (Int.natCast_emod x n).symm
        have hml : x % n < n := Nat.mod_lt _ (by omega)
        by_cases hxm : x % n = 0
        · have HXE := hid (upN_meet hn1 hx1 hx2 hxm)
          rw [hxm] at hmo
          clear hxm hml hge
          have hxle : x ≤ at_ + 8 := by omega
          have HXU := hid hxle
          have HYA := hid (HY2.out.keep0 ((Keep.refl (fun _ => False) w2).alloc (.cells #[iV x] 3)))
          have HBA := hid (HB2.out.keep0 ((Keep.refl (fun _ => False) w2).alloc (.cells #[iV x] 3)))
          have HSW := hid HY2.out.keep.size
          go_wp2_with (at_builtin; go_loud (refine wpList_append_rd rfl (.tmp 54) (.tmp 56) _ rfl w.heap.size _ i0 _ 1 8 Try.underlying43 hi0 hz0 hz1 hz2 rfl (by decide) _ ss.length _ (by rfl) (HY2.out.o7.alloc _) _ 1 [iV x] (by rfl) (rd_block (heap_alloc_new w2 _) (by simp) (by simp [Value.oneCell'])) (by unfold maxLen; have h7 : ss.length = k := HLN.out; omega) (by have h7 : ss.length = k := HLN.out; omega) (by have := HSW.out; simp; omega) ?_); go_loud (intro v' w5 hown5 hgrow5 hat5 hn5; obtain ⟨vp, vc, rfl⟩ := owns_val hown5; have hap := HYA.out.app7 HBA.out hown5 hgrow5 hat5; have HY5 := hid hap.1; have HB5 := hid hap.2; clear hown5 hgrow5 hat5 hn5 hap))
          have hcl : (cn : Int) = (cn : Int) := rfl
          clear hcl HY2 HB2 HYA HBA
          go_loopw [6, 8, 13] (fun o a i wy => ∃ (j av : Nat), j ≤ cn ∧ i = iV j ∧ a = iV av ∧ av = x + n * j ∧ LY w o (.slice vp (ss.length + 1) vc) (es ++ eAdd kd x n j) (ss ++ [x]) wy ∧ LB o (.slice vp (ss.length + 1) vc) bx ⟨nm, kd, (cn : Int)⟩ wy) (fun _ _ i _ => cn + 1 - (intOf i).toNat)
          case atStart => exact ⟨0, x, Nat.zero_le _, rfl, rfl, by simp, by rw [eAdd_zero, List.append_nil]; exact HY5.out, HB5.out⟩
          case round =>
            clear HY5 HB5
            obtain ⟨j, av, hj, rfl, rfl, hav, hY6, hB6⟩ := hrel
            obtain ⟨op6, oc6, rfl⟩ := owns_val hY6.o6
            have HY6 := hid hY6; have HB6 := hid hB6
            have hnj : n * j ≤ 64 := mul_le8 (by omega) (by omega)
            have hav2 : av ≤ at_ + 72 := by have := HXU.out; omega
            have HAV := hid hav
            have d1 : wr.cell? ⟨bx, 1, none⟩ = some (.int .i64 kd) := cell_of hB6.box (by rfl)
            have d2 : wr.cell? ⟨bx, 2, none⟩ = some (.int .i64 (cn : Int)) := cell_of hB6.box (by rfl)
            have HEL : Hid ((es ++ eAdd kd x n j).length ≤ 8 * k + 8) := hid (by have := HLE.out; rw [List.length_append, eAdd_len]; omega)
            have HSW6 := hid hY6.keep.size
            clear hY6 hB6 hav hnj
            by_cases hjt : j < cn
            · have HYA := hid (HY6.out.keep0 ((Keep.refl (fun _ => False) wr).alloc (.cells #[.int .i64 kd, iV av] 66)))
              have HBA := hid (HB6.out.keep0 ((Keep.refl (fun _ => False) wr).alloc (.cells #[.int .i64 kd, iV av] 66)))
              go_wp2_with (at_builtin; go_loud (refine wpList_append_rd rfl (.tmp 64) (.tmp 69) _ rfl w.heap.size _ i1 _ 2 16 Try.underlying51 hi1 hy0 hy1 hy2 rfl (by decide) _ (es ++ eAdd kd x n j).length _ (by rfl) (HY6.out.o6.alloc _) _ 1 [.int .i64 kd, iV av] (by rfl) (rd_block (heap_alloc_new wr _) (by simp) (by simp [Value.oneCell'])) (by unfold maxLen; have h7 := HEL.out; omega) (by have h7 := HEL.out; omega) (by have := HSW6.out; simp; omega) ?_); go_loud (intro v' w5 hown5 hgrow5 hat5 hn5; obtain ⟨vq, vd, rfl⟩ := owns_val hown5; have hap := HYA.out.app6 HBA.out (e := (kd, av)) hown5 hgrow5 hat5; have HY7 := hid hap.1; have HB7 := hid hap.2; clear hown5 hgrow5 hat5 hn5 hap))
              go_wp2
              go_roundw
              case rel => exact ⟨j + 1, av + n, by omega, by go_num, by go_num, by rw [Nat.mul_succ]; have := HAV.out; omega, by have h := HY7.out; rw [List.length_append] at h; rw [eAdd_next, ← List.append_assoc, ← HAV.out]; exact h, by have h := HB7.out; rw [List.length_append] at h; exact h⟩
              case measure => simp [intOf]; omega
            · obtain rfl : j = cn := by omega
              have hav3 : av = upN at_ n + n * j := by rw [← HXE.out]; exact HAV.out
              have HAV3 := hid hav3
              clear hav3
              have g1 : decide ((j : Int) < (j : Int)) = false := decide_eq_false (by omega)
              go_wp2
              go_roundw
              case rel =>
                have hs := HSL1.out
                rw [HSTEP.out] at hs
                simp only at hs
                refine ⟨k + 1, by omega, by go_num, ?_⟩
                rw [HNX.out, HSTEP.out, HES.out]
                refine ⟨by rw [HAV3.out], rfl, ⟨by simp only; omega, by simp only; omega, by simp only; omega⟩, ⟨by simp only [List.length_append, List.length_singleton]; have := HLN.out; omega, by rw [List.length_append, eAdd_len]; have := HLE.out; omega⟩, HG1.out, ?_⟩
                rw [← HXE.out]
                exact HY6.out
              case measure => simp [intOf]; omega
        · have HXL : Hid (x + 1 ≤ upN at_ n) := hid (by
            have := upN_dvd at_ n
            by_cases e : x = upN at_ n
            · rw [← e] at this; omega
            · omega)
          generalize x % n = m at *
          have q1 : ((m : Int) != 0) = true := by simp only [bne, beq_eq_false_iff_ne.2 (show (m : Int) ≠ 0 by omega)]; rfl
          have q2 : (m != 0) = true := by simp only [bne, beq_eq_false_iff_ne.2 hxm]; rfl
          go_wp2
          go_roundw
          case rel => exact ⟨x + 1, by go_num, by omega, HXL.out, trivial⟩
          case measure => have := HXL.out; simp [intOf]; omega
    · obtain rfl : k = fs.length := by omega
      rw [List.take_length] at *
      have HALL2 : Hid (∀ f ∈ fs, okF f) := HALL
      have hps : pSize fs = upN (pRun fs).1 (pRun fs).2.1 := rfl
      have HPS := hid hps
      have g1 : decide ((fs.length : Int) < (fs.length : Int)) = false := decide_eq_false (by omega)
      clear hps HALL
      generalize hst : pRun fs = st at *
      obtain ⟨at_, gr, ss⟩ := st
      simp only at hb1 hb2 hb3 HY HLN HPS
      have hup := up_le at_ gr hb2
      have HGE := hid (upN_ge (a := at_) hb2)
      go_wp2_with fail
      clear g1
      go_loopw [8] (fun a wy => ∃ x : Nat, a = iV x ∧ at_ ≤ x ∧ x ≤ upN at_ gr ∧ wr = wy) (fun a _ => upN at_ gr + 1 - (intOf a).toNat)
      case atStart => exact ⟨at_, rfl, Nat.le_refl _, HGE.out, rfl⟩
      case round =>
        obtain ⟨x, rfl, hx1, hx2, rfl⟩ := hrel
        have hzz : ((gr : Int) == 0) = false := beq_eq_false_iff_ne.2 (by omega)
        have hmo : ((x : Int).tmod (gr : Int)) = ((x % gr : Nat) : Int) := by rw [Int.tmod_eq_emod_of_nonneg (by omega)]; exact (Int.natCast_emod x gr).symm
        have hml : x % gr < gr := Nat.mod_lt _ (by omega)
        by_cases hxm : x % gr = 0
        · have HXE := hid (upN_meet hb2 hx1 hx2 hxm)
          rw [hxm] at hmo
          clear hxm hml
          by_cases hbig : 256 < x
          · have g1 : decide ((256 : Int) < (x : Int)) = true := decide_eq_true (by omega)
            have G := hid (lay_big HL.out HALL2.out (by rw [HPS.out, ← HXE.out]; exact hbig))
            go_wp2
            (try simp only [Exit.inBlock, Exit.then])
            refine bodyPost_ret (results_t4 rfl _) rfl ?_
            exact ⟨.inl ⟨by rw [G.out]; decide, by rw [G.out]; rfl⟩, HY.out.keep⟩
          · have g1 : decide ((256 : Int) < (x : Int)) = false := decide_eq_false (by omega)
            have G := hid (lay_good HL.out HALL2.out (by rw [HPS.out, ← HXE.out]; exact hbig))
            go_wp2
            (try simp only [Exit.inBlock, Exit.then])
            refine bodyPost_ret (results_t4 rfl _) rfl ?_
            refine ⟨.inr ⟨G.out, op, oc, sp, sc, ?_, ?_⟩, HY.out.keep⟩
            · rw [HPS.out, ← HXE.out, hst]; rfl
            · rw [hst]; exact HY.out
        · have HXL : Hid (x + 1 ≤ upN at_ gr) := hid (by
            have := upN_dvd at_ gr
            by_cases e : x = upN at_ gr
            · rw [← e] at this; omega
            · omega)
          generalize x % gr = m at *
          have q1 : ((m : Int) != 0) = true := by simp only [bne, beq_eq_false_iff_ne.2 (show (m : Int) ≠ 0 by omega)]; rfl
          have q2 : (m != 0) = true := by simp only [bne, beq_eq_false_iff_ne.2 hxm]; rfl
          go_wp2
          go_roundw
          case rel => exact ⟨x + 1, by go_num, by omega, HXL.out, trivial⟩
          case measure => have := HXL.out; simp [intOf]; omega
end Go.Proofs.Ytkgkcnmnfhehfaa

namespace Go.Proofs.Ytkgkcnmnfhehfaa
open Go.RowKit Go.Proofs.Heap Go.Proofs.Wide

/-- A digit of a size. -/
def dgN (m i : Nat) : Nat := m / 256 ^ i % 256
def ncell (b : Bool) (D : Nat → Nat) (i : Nat) : Value := if i = 0 then .bool b else iV (D (i - 1))
/-- The cells of a number. -/
def nC (b : Bool) (D : Nat → Nat) : Array Value := ((List.range 41).map (ncell b D)).toArray

theorem zero_num (w : World) : (zeroValue 118).run Try.prog w = .ok (.agg (nC false (fun _ => 0))) w := by kernel_rfl
theorem info_num : (Try.prog.info? 118).map (·.size) = some 41 := by kernel_rfl

section
variable (b : Bool) (D : Nat → Nat)
theorem nC_size : (nC b D).size = 41 := by simp [nC]
theorem nC_get (i : Nat) (h : i < 41) : (nC b D)[i]? = some (ncell b D i) := by simp [nC, h]
theorem nC_dig (i : Nat) (h : i < 40) : (nC b D)[1 + i]? = some (iV (D i)) := by
  rw [nC_get _ _ _ (by omega)]; unfold ncell; rw [if_neg (by omega), show 1 + i - 1 = i by omega]
theorem nC_ext {b' : Bool} {D' : Nat → Nat} (h1 : b = b') (h2 : ∀ i, i < 40 → D i = D' i) : nC b D = nC b' D' := by
  subst h1
  apply Array.ext_getElem?
  intro i
  by_cases hi : i < 41
  · rw [nC_get _ _ _ hi, nC_get _ _ _ hi]
    unfold ncell
    by_cases h0 : i = 0
    · rw [if_pos h0, if_pos h0]
    · rw [if_neg h0, if_neg h0, h2 _ (by omega)]
  · rw [Array.getElem?_eq_none (by rw [nC_size]; omega), Array.getElem?_eq_none (by rw [nC_size]; omega)]
theorem nC_set (j x : Nat) (h : j < 40) : (nC b D).setIfInBounds (1 + j) (iV x) = nC b (fun i => if i = j then x else D i) := by
  apply Array.ext_getElem?
  intro i
  rw [Array.getElem?_setIfInBounds, nC_size]
  by_cases e : 1 + j = i
  · subst e; rw [if_pos rfl, if_pos (by omega), nC_dig _ _ _ h]; simp
  · rw [if_neg e]
    by_cases hi : i < 41
    · rw [nC_get _ _ _ hi, nC_get _ _ _ hi]
      unfold ncell
      by_cases h0 : i = 0
      · rw [if_pos h0, if_pos h0]
      · rw [if_neg h0, if_neg h0]
        show some (iV (D (i - 1))) = some (iV (if i - 1 = j then x else D (i - 1)))
        rw [if_neg (by omega)]
    · rw [Array.getElem?_eq_none (by rw [nC_size]; omega), Array.getElem?_eq_none (by rw [nC_size]; omega)]
theorem nC_one : ∀ v ∈ (nC b D).toList, v.oneCell' = true := by
  intro v hv
  simp only [nC, List.mem_map, List.mem_range] at hv
  obtain ⟨i, _, rfl⟩ := hv
  unfold ncell
  split <;> rfl
theorem nC_neg (c : Bool) : (nC b D).setIfInBounds 0 (.bool c) = nC c D := by
  apply Array.ext_getElem?
  intro i
  rw [Array.getElem?_setIfInBounds, nC_size]
  by_cases e : 0 = i
  · subst e; rw [if_pos rfl, if_pos (by omega), nC_get _ _ _ (by omega)]; rfl
  · rw [if_neg e]
    by_cases hi : i < 41
    · rw [nC_get _ _ _ hi, nC_get _ _ _ hi]
      unfold ncell
      rw [if_neg (by omega), if_neg (by omega)]
    · rw [Array.getElem?_eq_none (by rw [nC_size]; omega), Array.getElem?_eq_none (by rw [nC_size]; omega)]
theorem nC_negL (c : Bool) : (nC b D).toList.set 0 (.bool c) = (nC c D).toList := by rw [← nC_neg b D c]; simp

/-- A number in block u. -/
def NI (w : World) (u : Nat) : Prop := w.heap[u]? = some (.cells (nC b D) 118 (0, 0))
variable {b D} {w : World} {u : Nat}
theorem NI.dig (h : NI b D w u) (i : Nat) (hi : i < 40) : w.cell? ⟨u, 1 + i, none⟩ = some (iV (D i)) := cell_of h (nC_dig b D i hi)
theorem NI.free (h : NI b D w u) (k : Nat) : w.frozen? ⟨u, k, none⟩ = false := free_of h k
theorem NI.keep (h : NI b D w u) {w' : World} {T : Nat → Prop} (hk : Keep T w w') (hT : ¬ T u) : NI b D w' u := hk.get h hT
theorem NI.load (h : NI b D w u) : (loadVar 118 ⟨u, 0, none⟩).run Try.prog w = .ok (.agg (nC b D)) w :=
  run_loadVar_row w u _ 118 _ _ _ h Try.underlying118 rfl (by rw [info_num, nC_size])
theorem NI.set (h : NI b D w u) (j x : Nat) (hj : j < 40) : NI b (fun i => if i = j then x else D i) (w.setCell ⟨u, 1 + j, none⟩ (iV x)) u := by
  unfold NI; rw [hsc_same h, nC_set b D j x hj]
/-- A number stored over another one. -/
theorem num_store (h : NI b D w u) (b' : Bool) (D' : Nat → Nat) : ∃ w', (storeCells ⟨u, 0, none⟩ (nC b' D').toList).run Try.prog w = .ok () w' ∧ NI b' D' w' u ∧ Keep (fun k => k = u) w w' := by
  have hr := run_storeCells_at Try.prog u 0 _ (nC b' D').toList 0 _ w h (by rw [Array.length_toList, nC_size, nC_size]; omega) (nC_one b' D')
  refine ⟨_, hr, ?_, (Keep.refl (fun k => k = u) w).setRow rfl _⟩
  refine (setRow_heap w u _ _ _ _ h).trans ?_
  have e : (List.take (0 + 0) (nC b D).toList ++ (nC b' D').toList ++ List.drop (0 + 0 + (nC b' D').toList.length) (nC b D).toList).toArray = nC b' D' := by
    apply Array.ext'
    have h1 : (nC b D).toList.length = 41 := by rw [Array.length_toList, nC_size]
    have h2 : (nC b' D').toList.length = 41 := by rw [Array.length_toList, nC_size]
    simp [h1, h2]
  exact congrArg (fun c => some (Obj.cells c 118 (0, 0))) e
end

/-- Digits under way: k of each half. -/
def dgK (hi lo k j : Nat) : Nat := if j < k then lo / 256 ^ j % 256 else if 8 ≤ j ∧ j < 8 + k then hi / 256 ^ (j - 8) % 256 else 0
theorem dgK_next (hi lo k : Nat) (hk : k < 8) : (fun j => if j = 8 + k then hi / 256 ^ k % 256 else if j = k then lo / 256 ^ k % 256 else dgK hi lo k j) = dgK hi lo (k + 1) := by
  funext j
  unfold dgK
  by_cases h1 : j = 8 + k
  · subst h1
    rw [if_pos rfl, if_neg (by omega), if_pos (by omega), show 8 + k - 8 = k by omega]
  · rw [if_neg h1]
    by_cases h2 : j = k
    · subst h2
      rw [if_pos rfl, if_pos (by omega)]
    · rw [if_neg h2]
      by_cases h3 : j < k
      · rw [if_pos h3, if_pos (by omega)]
      · rw [if_neg h3, if_neg (show ¬ j < k + 1 by omega)]
        by_cases h4 : 8 ≤ j ∧ j < 8 + k
        · rw [if_pos h4, if_pos (by omega)]
        · rw [if_neg h4, if_neg (by omega)]
theorem dgK_end (hi lo : Nat) (h1 : hi < 18446744073709551616) (h2 : lo < 18446744073709551616) (j : Nat) : dgK hi lo 8 j = dgN (hi * 18446744073709551616 + lo) j := by
  unfold dgK dgN
  by_cases hj : j < 16
  · have hc : j = 0 ∨ j = 1 ∨ j = 2 ∨ j = 3 ∨ j = 4 ∨ j = 5 ∨ j = 6 ∨ j = 7 ∨ j = 8 ∨ j = 9 ∨ j = 10 ∨ j = 11 ∨ j = 12 ∨ j = 13 ∨ j = 14 ∨ j = 15 := by omega
    rcases hc with rfl | rfl | rfl | rfl | rfl | rfl | rfl | rfl | rfl | rfl | rfl | rfl | rfl | rfl | rfl | rfl <;> simp <;> omega
  · rw [if_neg (by omega), if_neg (by omega)]
    have : hi * 18446744073709551616 + lo < 256 ^ j := Nat.lt_of_lt_of_le (show _ < 256 ^ 16 by omega) (Nat.pow_le_pow_right (by decide) (by omega))
    rw [Nat.div_eq_of_lt this]

set_option maxRecDepth 20000 in
set_option maxHeartbeats 4000000 in
theorem r_from (x : WI) (hx : x.fit) (w : World) : Calls Try.prog 66 #[WV x] w fun r w' => r = .returned (.agg (nC x.neg (dgN x.mag))) ∧ Keep (fun _ => False) w w' := by
  obtain ⟨ng, hi, lo⟩ := x
  have hfit1 := hx.1
  have hfit2 := hx.2
  simp only at hfit1 hfit2
  have hz := zero_num
  have hsz := nC_size false (fun _ => 0)
  have hset := nC_neg false (fun _ => 0) ng
  have hset2 := nC_negL false (fun _ => 0) ng
  have hb1 := heap_alloc_new w (.cells #[.bool ng, .int .u64 (hi : Int), .int .u64 (lo : Int)] 57)
  have hb2 := heap_alloc_new (w.alloc (.cells #[.bool ng, .int .u64 (hi : Int), .int .u64 (lo : Int)] 57)) (.cells (nC false fun _ => 0) 118)
  have hb3 := heap_alloc_new ((w.alloc (.cells #[.bool ng, .int .u64 (hi : Int), .int .u64 (lo : Int)] 57)).alloc (.cells (nC false fun _ => 0) 118)) (.cells (nC false fun _ => 0) 118)
  have hk0 := (((Keep.refl (fun _ => False) w).alloc (.cells #[.bool ng, .int .u64 (hi : Int), .int .u64 (lo : Int)] 57)).alloc (.cells (nC false fun _ => 0) 118)).alloc (.cells (nC false fun _ => 0) 118)
  have hb1' := (((Keep.refl (fun _ => False) (w.alloc (.cells #[.bool ng, .int .u64 (hi : Int), .int .u64 (lo : Int)] 57))).alloc (.cells (nC false fun _ => 0) 118)).alloc (.cells (nC false fun _ => 0) 118)).get hb1 id
  have hb2' := ((Keep.refl (fun _ => False) ((w.alloc (.cells #[.bool ng, .int .u64 (hi : Int), .int .u64 (lo : Int)] 57)).alloc (.cells (nC false fun _ => 0) 118))).alloc (.cells (nC false fun _ => 0) 118)).get hb2 id
  have e1 : (w.alloc (.cells #[.bool ng, .int .u64 (hi : Int), .int .u64 (lo : Int)] 57)).heap.size = w.heap.size + 1 := by simp
  have e2 : ((w.alloc (.cells #[.bool ng, .int .u64 (hi : Int), .int .u64 (lo : Int)] 57)).alloc (.cells (nC false fun _ => 0) 118)).heap.size = w.heap.size + 1 + 1 := by simp
  rw [e1] at hb2'
  rw [e2] at hb3
  obtain ⟨w2, hst, hN, hks⟩ := num_store (b := false) (D := fun _ => 0) hb3 ng (fun _ => 0)
  have HBX := hid (hks.get hb1' (by omega))
  have HR := hid (hks.get hb2' (by omega))
  have HN := hid hN
  have HK := hid (hk0.trans' hks (fun i hi e => by omega))
  clear hb1 hb2 hb3 hk0 hb1' hb2' e1 e2 hks hN hx
  go_enter Try.func66, Try.ntmps66
  go_upto_region 2 with fail
  generalize hsb : w.heap.size = sb at *
  have d1 : w2.cell? ⟨sb, 1, none⟩ = some (.int .u64 (hi : Int)) := cell_of HBX.out (by rfl)
  have d2 : w2.cell? ⟨sb, 2, none⟩ = some (.int .u64 (lo : Int)) := cell_of HBX.out (by rfl)
  clear hst hz hsz hset hset2
  go_wp2_with fail
  clear d1 d2
  go_loopw [4, 5, 6] (fun h l i wr => ∃ k : Nat, k ≤ 8 ∧ i = iV k ∧ h = .int .u64 ((hi / 256 ^ k : Nat) : Int) ∧ l = .int .u64 ((lo / 256 ^ k : Nat) : Int) ∧ NI ng (dgK hi lo k) wr (sb + 1 + 1) ∧ Keep (fun q => q = sb + 1 + 1) w2 wr) (fun _ _ i _ => 9 - (intOf i).toNat)
  case atStart => exact ⟨0, by omega, rfl, by simp, by simp, by
    have : dgK hi lo 0 = fun _ => 0 := by funext j; unfold dgK; rw [if_neg (by omega), if_neg (by omega)]
    rw [this]; exact HN.out, Keep.refl _ _⟩
  case round =>
    clear HN
    obtain ⟨k, hk, rfl, rfl, rfl, hN, hks⟩ := hrel
    have HN := hid hN; have HKS := hid hks
    clear hN hks
    by_cases hlt : k < 8
    · have HNX := hid (dgK_next hi lo k hlt)
      have hl : lo / 256 ^ k ≤ lo := Nat.div_le_self _ _
      have hh : hi / 256 ^ k ≤ hi := Nat.div_le_self _ _
      have HL1 : Hid (lo / 256 ^ (k + 1) = lo / 256 ^ k / 256) := hid (by rw [Nat.pow_succ, Nat.div_div_eq_div_mul])
      have HH1 : Hid (hi / 256 ^ (k + 1) = hi / 256 ^ k / 256) := hid (by rw [Nat.pow_succ, Nat.div_div_eq_div_mul])
      generalize lo / 256 ^ k = l at *
      generalize hi / 256 ^ k = h at *
      have m1 : (l : Int).tmod 256 = ((l % 256 : Nat) : Int) := by rw [Int.tmod_eq_emod_of_nonneg (by omega)]; omega
      have m2 : (l : Int).tdiv 256 = ((l / 256 : Nat) : Int) := by rw [Int.tdiv_eq_ediv_of_nonneg (by omega)]; omega
      have m3 : (h : Int).tmod 256 = ((h % 256 : Nat) : Int) := by rw [Int.tmod_eq_emod_of_nonneg (by omega)]; omega
      have m4 : (h : Int).tdiv 256 = ((h / 256 : Nat) : Int) := by rw [Int.tdiv_eq_ediv_of_nonneg (by omega)]; omega
      have b1 : l % 256 < 256 := Nat.mod_lt _ (by decide)
      have b3 : h % 256 < 256 := Nat.mod_lt _ (by decide)
      generalize l % 256 = lm at *
      generalize h % 256 = hm at *
      have hin : (0 : Int) ≤ (k : Int) ∧ (k : Int) < 40 := ⟨by omega, by omega⟩
      have hin2 : (0 : Int) ≤ 8 + (k : Int) ∧ 8 + (k : Int) < 40 := ⟨by omega, by omega⟩
      have c1 := HN.out.dig k (by omega)
      have f1 := HN.out.free (1 + k)
      have hN2 := HN.out.set k lm (by omega)
      have c2 := hN2.dig (8 + k) (by omega)
      have f2 := hN2.free (1 + (8 + k))
      have HN3 := hid (hN2.set (8 + k) hm (by omega))
      rw [HNX.out] at HN3
      have W1 : Hid (IntKind.u64.wrap ((h : Int) / 256) = ((h / 256 : Nat) : Int)) := hid (by simp [IntKind.wrap, IntKind.bits, IntKind.signed]; omega)
      have W2 : Hid (IntKind.u64.wrap ((l : Int) / 256) = ((l / 256 : Nat) : Int)) := hid (by simp [IntKind.wrap, IntKind.bits, IntKind.signed]; omega)
      clear hN2 hl hh
      generalize dgK hi lo k = D at *
      go_wp2
      go_roundw
      case rel => exact ⟨k + 1, by omega, by go_num, by rw [HH1.out, W1.out], by rw [HL1.out, W2.out], HN3.out, (HKS.out.setCell (p := ⟨sb + 1 + 1, 1 + k, none⟩) rfl _).setCell (p := ⟨sb + 1 + 1, 1 + (8 + k), none⟩) rfl _⟩
      case measure => simp [intOf]; omega
    · obtain rfl : k = 8 := by omega
      have hR2 : NI false (fun _ => 0) wr (sb + 1) := HKS.out.get HR.out (by omega)
      obtain ⟨w3, hst, hN3, hk3⟩ := num_store hR2 ng (dgK hi lo 8)
      have hload := hN3.load
      have HE := hid (nC_ext ng (dgK hi lo 8) (b' := ng) (D' := dgN (hi * 18446744073709551616 + lo)) rfl (fun i _ => dgK_end hi lo hfit1 hfit2 i))
      have HKF := hid ((HK.out.trans' HKS.out (fun i hi e => by omega)).trans' hk3 (fun i hi e => by omega))
      clear hk3 hN3 hR2
      go_wp2_with (refine wpList_load_row rfl 118 _ rfl _ rfl _ _ _ _ HN.out Try.underlying118 rfl (by rw [info_num, nC_size]) ?_)
      (try simp only [Exit.inBlock, Exit.then])
      refine bodyPost_ret (results_c rfl _ rfl hload) rfl ?_
      exact ⟨by rw [HE.out]; rfl, HKF.out⟩
end Go.Proofs.Ytkgkcnmnfhehfaa
