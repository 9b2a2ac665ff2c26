/- What is proved: what IsName of the schema and Name of the reference answer: whether a text is a name. -/
import Derived.Test.YtdekdefjfaoclaaDoorRows
import Derived.WalkKit
import Derived.WalkSpells
import Derived.WalkLawsBesides
import Derived.Deep.Cut
import Derived.Deep.CutRange
import Derived.Deep.CutBlock
import Derived.Test.YtdekdefjfaoclaaDoorHeap
namespace Go.Proofs.YtdekdefjfaoclaaDoor
open Go.RowKit Go.Proofs.Heap

def letN (x : Int) : Bool := decide (97 ≤ x) && decide (x ≤ 122)
def digN (x : Int) : Bool := decide (48 ≤ x) && decide (x ≤ 57)
def byteN (s : ByteArray) (i : Nat) : Int := ((s.get! i).toNat : Int)
/-- Whether a text is a name. -/
def nameB (s : ByteArray) : Bool := decide (1 ≤ s.size ∧ s.size ≤ 12 ∧ letN (byteN s 0) = true ∧ ∀ i, i < s.size → (letN (byteN s i) || digN (byteN s i)) = true)

theorem tl_eq (s : ByteArray) : s.toList = s.data.toList := ByteArray.toList_eq s
theorem empty_no {s : ByteArray} (h : s.size ≠ 0) : s.toList.isEmpty = false := by
  rw [tl_eq]
  cases e : s.data.toList with
  | nil => have e2 := congrArg List.length e; rw [Array.length_toList] at e2; exact absurd e2 h
  | cons _ _ => rfl
theorem empty_yes {s : ByteArray} (h : s.size = 0) : s.toList.isEmpty = true := by
  rw [tl_eq]
  cases e : s.data.toList with
  | nil => rfl
  | cons a l => have e2 := congrArg List.length e; rw [Array.length_toList] at e2; exact absurd (h.symm.trans e2) (by simp)
theorem seq_dec (a b : ByteArray) : (a.toList == b.toList) = decide (a = b) := by
  rw [tl_eq, tl_eq]
  by_cases h : a = b
  · subst h; simp
  · have : ¬ a.data.toList = b.data.toList := fun e => h (by cases a; cases b; simp at e; simp [e])
    rw [decide_eq_false h]
    simpa using this
theorem byte_at (s : ByteArray) (i : Nat) (h : i < s.size) : ((s[i]'h).toNat : Int) = byteN s i := by
  unfold byteN
  cases s with
  | mk d => rw [show (ByteArray.mk d).get! i = d[i]'h from getElem!_pos d i h]; rfl
theorem nameB_short {s : ByteArray} (h : s.size = 0 ∨ 12 < s.size) : nameB s = false := decide_eq_false (fun hh => by omega)
theorem nameB_first {s : ByteArray} (h : letN (byteN s 0) = false) : nameB s = false := decide_eq_false (fun hh => by rw [h] at hh; exact Bool.noConfusion hh.2.2.1)
theorem nameB_bad {s : ByteArray} {i : Nat} (hi : i < s.size) (h : (letN (byteN s i) || digN (byteN s i)) = false) : nameB s = false := decide_eq_false (fun hh => by have := hh.2.2.2 i hi; rw [h] at this; cases this)
theorem nameB_good {s : ByteArray} (h1 : 1 ≤ s.size) (h2 : s.size ≤ 12) (h3 : letN (byteN s 0) = true) (h4 : ∀ i, i < s.size → (letN (byteN s i) || digN (byteN s i)) = true) : nameB s = true := decide_eq_true ⟨h1, h2, h3, h4⟩

theorem is_letter (x : Int) (w : World) : Calls Tryd.prog 47 #[.int .u8 x] w fun r w' => r = .returned (.bool (letN x)) ∧ w = w' := by
  go_enter Tryd.func47, Tryd.ntmps47
  unfold letN
  by_cases h1 : (97 : Int) ≤ x
  · have e1 : decide ((97 : Int) ≤ x) = true := decide_eq_true h1
    go_wp2
    go_ret
    exact ⟨by simp [h1], rfl⟩
  · have e1 : decide ((97 : Int) ≤ x) = false := decide_eq_false h1
    go_wp2
    go_ret
    exact ⟨by simp, rfl⟩

set_option maxHeartbeats 1000000 in
theorem is_name (s : ByteArray) (w : World) : Calls Tryd.prog 41 #[.string s] w fun r w' => r = .returned (.bool (nameB s)) ∧ w = w' := by
  go_enter Tryd.func41, Tryd.ntmps41
  by_cases h0 : s.size = 0
  · have e := empty_yes h0
    go_wp2
    go_ret
    exact ⟨by rw [nameB_short (.inl h0)]; rfl, rfl⟩
  have e := empty_no h0
  by_cases h12 : 12 < s.size
  · have e1 : decide ((12 : Int) < (s.size : Int)) = true := decide_eq_true (by omega)
    have e2 : decide (12 < s.size) = true := decide_eq_true h12
    go_wp2
    go_ret
    exact ⟨by rw [nameB_short (.inr h12)]; rfl, rfl⟩
  have e1 : decide ((12 : Int) < (s.size : Int)) = false := decide_eq_false (by omega)
  have e2 : decide (12 < s.size) = false := decide_eq_false h12
  have hb0 := byte_at s 0 (by omega)
  have hi0 : (0 : Int) ≤ 0 ∧ (0 : Int) < (s.size : Int) := ⟨by omega, by omega⟩
  have hi1 : 0 < s.size := by omega
  have HF := hid (fun h => nameB_first (s := s) h)
  go_wp2_with fail
  refine (is_letter _ w).mono ?_
  rintro r w' ⟨rfl, rfl⟩
  clear hb0 hi0
  cases hl0 : letN (byteN s 0)
  · have e3 := HF.out hl0
    clear HF
    go_wp2
    go_ret
    exact ⟨by rw [e3]; rfl, rfl⟩
  clear HF e1 e2 e
  have HL0 := hid hl0
  clear hl0
  go_wp2_with fail
  go_loopw [3, 19] (fun _ i wr => ∃ k : Nat, k ≤ s.size ∧ i = .int .i64 k ∧ w = wr ∧ ∀ j, j < k → (letN (byteN s j) || digN (byteN s j)) = true) (fun _ i _ => s.size + 1 - (intOf i).toNat)
  case atStart => exact ⟨0, by omega, by go_num, rfl, fun j hj => by omega⟩
  case round =>
    obtain ⟨k, hk, rfl, rfl, hall⟩ := hrel
    have HALL := hid hall
    clear hall
    by_cases hlt : k < s.size
    · have hb := byte_at s k hlt
      have hi : (0 : Int) ≤ (k : Int) ∧ (k : Int) < (s.size : Int) := ⟨by omega, by omega⟩
      have HBAD := hid (fun h => nameB_bad (s := s) hlt h)
      have HN : Hid ((letN (byteN s k) || digN (byteN s k)) = true → ∀ j, j < k + 1 → (letN (byteN s j) || digN (byteN s j)) = true) := hid (fun h j hj => by
        by_cases e : j = k
        · rw [e]; exact h
        · exact HALL.out j (by omega))
      go_wp2_with fail
      refine (is_letter _ w).mono ?_
      rintro r w' ⟨rfl, rfl⟩
      cases hl : letN (byteN s k)
      · have hdg : digN (byteN s k) = (decide (48 ≤ byteN s k) && decide (byteN s k ≤ 57)) := rfl
        rw [hl, hdg] at HN HBAD
        clear hdg hl
        generalize byteN s k = x at *
        by_cases h1 : x < 48
        · have f1 : decide (x < 48) = true := decide_eq_true h1
          have f2 := HBAD.out (by rw [decide_eq_false (by omega : ¬ 48 ≤ x)]; rfl)
          clear HN HBAD
          go_wp2
          go_ret
          exact ⟨by first | rfl | (rw [f2]; rfl), rfl⟩
        · have f1 : decide (x < 48) = false := decide_eq_false h1
          by_cases h2 : 57 < x
          · have f3 : decide (57 < x) = true := decide_eq_true h2
            have f2 := HBAD.out (by rw [decide_eq_false (by omega : ¬ x ≤ 57)]; simp)
            clear HN HBAD
            go_wp2
            go_ret
            exact ⟨by first | rfl | (rw [f2]; rfl), rfl⟩
          · have f3 : decide (57 < x) = false := decide_eq_false h2
            have HN2 := hid (HN.out (by rw [decide_eq_true (by omega : 48 ≤ x), decide_eq_true (by omega : x ≤ 57)]; rfl))
            clear HN HBAD
            go_wp2
            go_roundw
            case rel => exact ⟨k + 1, by omega, by go_num, by simp, HN2.out⟩
            case measure => simp [intOf]; omega
      · have HN2 := hid (HN.out (by rw [hl]; rfl))
        clear HN HBAD hl
        go_wp2
        go_roundw
        case rel => exact ⟨k + 1, by omega, by go_num, by simp, HN2.out⟩
        case measure => simp [intOf]; omega
    · have e : k = s.size := by omega
      have e3 := nameB_good (s := s) (by omega) (by omega) HL0.out (fun j hj => HALL.out j (by omega))
      have e4 : decide ((k : Int) < (s.size : Int)) = false := decide_eq_false (by omega)
      have e5 : decide (k < s.size) = false := decide_eq_false hlt
      clear HALL HL0
      go_wp2
      go_ret
      exact ⟨by rw [e3]; rfl, rfl⟩

set_option maxHeartbeats 2000000 in
theorem r_name (s : ByteArray) (w : World) : Calls Tryd.prog 18 #[.string s] w fun r w' => r = .returned (.bool (nameB s)) ∧ w = w' := by
  go_enter Tryd.func18, Tryd.ntmps18
  by_cases h0 : s.size = 0
  · have e1 : decide ((s.size : Int) < 1) = true := decide_eq_true (by omega)
    have e2 : decide (s.size < 1) = true := decide_eq_true (by omega)
    go_wp2
    go_ret
    exact ⟨by rw [nameB_short (.inl h0)]; rfl, rfl⟩
  have e3 : decide ((s.size : Int) < 1) = false := decide_eq_false (by omega)
  have e4 : decide (s.size < 1) = false := decide_eq_false (by omega)
  by_cases h12 : 12 < s.size
  · have e1 : decide ((12 : Int) < (s.size : Int)) = true := decide_eq_true (by omega)
    have e2 : decide (12 < s.size) = true := decide_eq_true h12
    go_wp2
    go_ret
    exact ⟨by rw [nameB_short (.inr h12)]; rfl, rfl⟩
  have e1 : decide ((12 : Int) < (s.size : Int)) = false := decide_eq_false (by omega)
  have e2 : decide (12 < s.size) = false := decide_eq_false h12
  go_wp2_with fail
  clear e1 e2 e3 e4
  go_loopw [3, 4, 5] (fun i _ _ wr => ∃ k : Nat, k ≤ s.size ∧ i = .int .i64 k ∧ w = wr ∧ ∀ j, j < k → (letN (byteN s j) || digN (byteN s j)) = true ∧ (j = 0 → letN (byteN s j) = true)) (fun i _ _ _ => s.size + 1 - (intOf i).toNat)
  case atStart => exact ⟨0, by omega, by go_num, rfl, fun j hj => by omega⟩
  case round =>
    obtain ⟨k, hk, rfl, rfl, hall⟩ := hrel
    have HALL := hid hall
    clear hall
    by_cases hlt : k < s.size
    · have hb := byte_at s k hlt
      have hi : (0 : Int) ≤ (k : Int) ∧ (k : Int) < (s.size : Int) := ⟨by omega, by omega⟩
      have HBAD := hid (fun h => nameB_bad (s := s) hlt h)
      have HBAD0 : Hid (k = 0 → letN (byteN s k) = false → nameB s = false) := hid (fun e h => nameB_first (e ▸ h))
      have HN : Hid ((letN (byteN s k) || digN (byteN s k)) = true → (k = 0 → letN (byteN s k) = true) → ∀ j, j < k + 1 → (letN (byteN s j) || digN (byteN s j)) = true ∧ (j = 0 → letN (byteN s j) = true)) := hid (fun h h0 j hj => by
        by_cases e : j = k
        · subst e; exact ⟨h, h0⟩
        · exact HALL.out j (by omega))
      generalize byteN s k = x at *
      clear HALL
      by_cases c1 : x < 48
      · have g1 : decide (97 ≤ x) = false := decide_eq_false (by omega)
        have g2 : decide (48 ≤ x) = false := decide_eq_false (by omega)
        have f2 := HBAD.out (by simp [letN, digN, g1, g2])
        clear HN HBAD HBAD0
        go_wp2
        go_ret
        exact ⟨by first | rfl | (rw [f2]; rfl), rfl⟩
      by_cases c2 : x ≤ 57
      · have g1 : decide (97 ≤ x) = false := decide_eq_false (by omega)
        have g2 : decide (48 ≤ x) = true := decide_eq_true (by omega)
        have g3 : decide (x ≤ 57) = true := decide_eq_true (by omega)
        by_cases hk0 : k = 0
        · have q1 : ((k : Int) == 0) = true := beq_iff_eq.2 (by omega)
          have q2 : (k == 0) = true := beq_iff_eq.2 hk0
          have f2 := HBAD0.out hk0 (by simp [letN, g1])
          clear hk0
          clear HN HBAD HBAD0
          go_wp2
          go_ret
          exact ⟨by first | rfl | (rw [f2]; rfl), rfl⟩
        · have q1 : ((k : Int) == 0) = false := beq_eq_false_iff_ne.2 (by omega)
          have q2 : (k == 0) = false := beq_eq_false_iff_ne.2 hk0
          have HN2 := hid (HN.out (by simp [letN, digN, g1, g2, g3]) (fun h => absurd h hk0))
          clear hk0
          clear HN HBAD HBAD0
          go_wp2
          go_roundw
          case rel => exact ⟨k + 1, by omega, by go_num, by simp, HN2.out⟩
          case measure => simp [intOf]; omega
      by_cases c3 : x < 97
      · have g1 : decide (97 ≤ x) = false := decide_eq_false (by omega)
        have g2 : decide (48 ≤ x) = true := decide_eq_true (by omega)
        have g3 : decide (x ≤ 57) = false := decide_eq_false (by omega)
        have f2 := HBAD.out (by simp [letN, digN, g1, g2, g3])
        clear HN HBAD HBAD0
        go_wp2
        go_ret
        exact ⟨by first | rfl | (rw [f2]; rfl), rfl⟩
      by_cases c4 : x ≤ 122
      · have g1 : decide (97 ≤ x) = true := decide_eq_true (by omega)
        have g2 : decide (x ≤ 122) = true := decide_eq_true (by omega)
        have g3 : decide (48 ≤ x) = true := decide_eq_true (by omega)
        have g4 : decide (x ≤ 57) = false := decide_eq_false (by omega)
        have HN2 := hid (HN.out (by simp [letN, g1, g2]) (fun _ => by simp [letN, g1, g2]))
        clear HN HBAD HBAD0
        go_wp2
        go_roundw
        case rel => exact ⟨k + 1, by omega, by go_num, by simp, HN2.out⟩
        case measure => simp [intOf]; omega
      · have g1 : decide (97 ≤ x) = true := decide_eq_true (by omega)
        have g2 : decide (x ≤ 122) = false := decide_eq_false (by omega)
        have g3 : decide (48 ≤ x) = true := decide_eq_true (by omega)
        have g4 : decide (x ≤ 57) = false := decide_eq_false (by omega)
        have f2 := HBAD.out (by simp [letN, digN, g1, g2, g3, g4])
        clear HN HBAD HBAD0
        go_wp2
        go_ret
        exact ⟨by first | rfl | (rw [f2]; rfl), rfl⟩
    · have e : k = s.size := by omega
      have e3 := nameB_good (s := s) (by omega) (by omega) ((HALL.out 0 (by omega)).2 rfl) (fun j hj => (HALL.out j (by omega)).1)
      have e4 : decide ((k : Int) < (s.size : Int)) = false := decide_eq_false (by omega)
      have e5 : decide (k < s.size) = false := decide_eq_false hlt
      clear HALL
      go_wp2
      go_ret
      exact ⟨by rw [e3]; rfl, rfl⟩
end Go.Proofs.YtdekdefjfaoclaaDoor
