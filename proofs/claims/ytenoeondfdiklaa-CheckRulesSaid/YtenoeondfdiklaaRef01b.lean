/- What is proved: what the reference's Size, Cmp, Good answer. -/
import Derived.Test.YtenoeondfdiklaaRef01
import Derived.Test.YtenoeondfdiklaaRegion
import Derived.Test.YtenoeondfdiklaaWide
namespace Go.Proofs.Ytenoeondfdiklaa
open Go.RowKit Go.Proofs.Heap Go.Proofs.Wide

theorem dg_split (m k : Nat) : m / 256 ^ k = 256 * (m / 256 ^ (k + 1)) + dgN m k := by
  unfold dgN
  rw [Nat.pow_succ, ← Nat.div_div_eq_div_mul]
  exact (Nat.div_add_mod _ _).symm
theorem dg_lt (m k : Nat) : dgN m k < 256 := Nat.mod_lt _ (by decide)
theorem dg_eq {m m' k : Nat} (h : m / 256 ^ (k + 1) = m' / 256 ^ (k + 1)) (hd : dgN m k = dgN m' k) : m / 256 ^ k = m' / 256 ^ k := by rw [dg_split m, dg_split m', h, hd]
theorem dg_less {m m' k : Nat} (h : m / 256 ^ (k + 1) = m' / 256 ^ (k + 1)) (hd : dgN m k < dgN m' k) : m < m' := by
  have h1 := dg_split m k
  have h2 := dg_split m' k
  refine Nat.lt_of_not_le fun hle => ?_
  have := Nat.div_le_div_right (c := 256 ^ k) hle
  omega
theorem cmpN_gt {a b : Nat} (h : b < a) : cmpN a b = 1 := by unfold cmpN; rw [if_pos h]
theorem cmpN_lt {a b : Nat} (h : a < b) : cmpN a b = -1 := by unfold cmpN; rw [if_neg (by omega), if_neg (by omega)]
theorem cmpN_eq {a b : Nat} (h : a = b) : cmpN a b = 0 := by unfold cmpN; rw [if_neg (by omega), if_pos h]

set_option maxRecDepth 20000 in
set_option maxHeartbeats 2000000 in
theorem r_good (x : WI) (hx : x.fit) (w : World) : Calls Try.prog 30 #[WV x] w fun r w' => r = .returned (.bool x.form) ∧ Keep (fun _ => False) w w' := by
  obtain ⟨ng, hi, lo⟩ := x
  have hf1 := hx.1
  have hf2 := hx.2
  simp only at hf1 hf2
  have HK := hid ((Keep.refl (fun _ => False) w).alloc (.cells #[.bool ng, .int .u64 (hi : Int), .int .u64 (lo : Int)] 62))
  have hform : WI.form ⟨ng, hi, lo⟩ = (decide (hi < 9223372036854775808) && (!ng || decide (hi * 18446744073709551616 + lo ≠ 0))) := rfl
  rw [hform]
  clear hform hx
  go_enter Try.func30, Try.ntmps30
  by_cases h1 : hi < 9223372036854775808
  · have g1 : decide ((hi : Int) < 9223372036854775808) = true := decide_eq_true (by omega)
    have g1' : decide (hi < 9223372036854775808) = true := decide_eq_true h1
    rw [g1']
    cases ng
    · go_wp2
      go_ret
      exact ⟨rfl, HK.out⟩
    · by_cases h2 : hi = 0
      · by_cases h3 : lo = 0
        · subst h2; subst h3
          go_wp2
          go_ret
          exact ⟨rfl, HK.out⟩
        · subst h2
          have g3 : ((lo : Int) == 0) = false := beq_eq_false_iff_ne.2 (by omega)
          have g4 : (lo == 0) = false := beq_eq_false_iff_ne.2 h3
          have G : Hid (decide (0 * 18446744073709551616 + lo ≠ 0) = true) := hid (decide_eq_true (by omega))
          go_wp2
          go_ret
          exact ⟨by rw [G.out]; rfl, HK.out⟩
      · have g3 : ((hi : Int) == 0) = false := beq_eq_false_iff_ne.2 (by omega)
        have g4 : (hi == 0) = false := beq_eq_false_iff_ne.2 h2
        have G : Hid (decide (hi * 18446744073709551616 + lo ≠ 0) = true) := hid (decide_eq_true (by omega))
        go_wp2
        go_ret
        exact ⟨by rw [G.out]; rfl, HK.out⟩
  · have g1 : decide ((hi : Int) < 9223372036854775808) = false := decide_eq_false (by omega)
    have g1' : decide (hi < 9223372036854775808) = false := decide_eq_false h1
    rw [g1']
    go_wp2
    go_ret
    exact ⟨rfl, HK.out⟩
end Go.Proofs.Ytenoeondfdiklaa
