/- What is proved: what the reference's Size, Cmp, Good answer. -/
import Derived.Test.YtkgkcnmnfhehfaaRef01
import Derived.Test.YtkgkcnmnfhehfaaRegion
import Derived.Test.YtkgkcnmnfhehfaaWide
namespace Go.Proofs.Ytkgkcnmnfhehfaa
open Go.RowKit Go.Proofs.Heap Go.Proofs.Wide

theorem dg_split (m k : Nat) : m / 256 ^ k = 256 * (m / 256 ^ (k + 1)) + dgN m k := by
  unfold dgN
  rw [Nat.pow_succ, ← Nat.div_div_eq_div_mul]
  exact (Nat.div_add_mod _ _).symm
theorem dg_lt (m k : Nat) : dgN m k < 256 := Nat.mod_lt _ (by decide)
theorem dg_eq {m m' k : Nat} (h : m / 256 ^ (k + 1) = m' / 256 ^ (k + 1)) (hd : dgN m k = dgN m' k) : m / 256 ^ k = m' / 256 ^ k := by rw [dg_split m, dg_split m', h, hd]
theorem dg_less {m m' k : Nat} (h : m / 256 ^ (k + 1) = m' / 256 ^ (k + 1)) (hd : dgN m k < dgN m' k) : m < m' := by
  have h1 := dg_split m k
  have h2 := dg_split m' k
  refine Nat.lt_of_not_le fun hle => ?_
  have := Nat.div_le_div_right (c := 256 ^ k) hle
  omega
theorem cmpN_gt {a b : Nat} (h : b < a) : cmpN a b = 1 := by unfold cmpN; rw [if_pos h]
theorem cmpN_lt {a b : Nat} (h : a < b) : cmpN a b = -1 := by unfold cmpN; rw [if_neg (by omega), if_neg (by omega)]
theorem cmpN_eq {a b : Nat} (h : a = b) : cmpN a b = 0 := by unfold cmpN; rw [if_neg (by omega), if_pos h]

set_option maxRecDepth 20000 in
set_option maxHeartbeats 4000000 in
theorem r_size (a b : Bool) (m n : Nat) (hm : m < 256 ^ 40) (hn : n < 256 ^ 40) (w : World) : Calls Try.prog 65 #[.agg (nC a (dgN m)), .agg (nC b (dgN n))] w fun r w' => r = .returned (.int .i64 (cmpN m n)) ∧ Keep (fun _ => False) w w' := by
  have hb1 := heap_alloc_new w (.cells (nC a (dgN m)) 118)
  have hb2 := heap_alloc_new (w.alloc (.cells (nC a (dgN m)) 118)) (.cells (nC b (dgN n)) 118)
  have e1 : (w.alloc (.cells (nC a (dgN m)) 118)).heap.size = w.heap.size + 1 := by simp
  have hb1' := ((Keep.refl (fun _ => False) (w.alloc (.cells (nC a (dgN m)) 118))).alloc (.cells (nC b (dgN n)) 118)).get hb1 id
  rw [e1] at hb2
  have hk := ((Keep.refl (fun _ => False) w).alloc (.cells (nC a (dgN m)) 118)).alloc (.cells (nC b (dgN n)) 118)
  have HA : Hid (NI a (dgN m) _ _) := hid hb1'
  have HB : Hid (NI b (dgN n) _ _) := hid hb2
  have HK := hid hk
  have H40 : Hid (m / 256 ^ 40 = n / 256 ^ 40) := hid (by rw [Nat.div_eq_of_lt hm, Nat.div_eq_of_lt hn])
  clear hb1 hb2 hb1' hk e1 hm hn
  go_enter Try.func65, Try.ntmps65
  go_upto_region 1 with fail
  generalize (w.alloc (.cells (nC a (dgN m)) 118)).alloc (.cells (nC b (dgN n)) 118) = w1 at *
  generalize w.heap.size = sb at *
  go_wp2_with fail
  go_loopw [5] (fun i wr => ∃ k : Nat, k ≤ 40 ∧ i = .int .i64 ((k : Int) - 1) ∧ m / 256 ^ k = n / 256 ^ k ∧ Keep (fun _ => False) w1 wr) (fun i _ => (intOf i + 1).toNat)
  case atStart => exact ⟨40, Nat.le_refl _, by rfl, H40.out, Keep.refl _ _⟩
  case round =>
    clear H40
    obtain ⟨k, hk, rfl, heq, hkr⟩ := hrel
    have HEQ := hid heq; have HKR := hid hkr
    clear heq hkr
    cases k with
    | succ k =>
      have hme : ((k + 1 : Nat) : Int) - 1 = (k : Int) := by omega
      rw [hme]
      have g1 : decide ((0 : Int) ≤ (k : Int)) = true := decide_eq_true (by omega)
      have hin : (0 : Int) ≤ (k : Int) ∧ (k : Int) < 40 := ⟨by omega, by omega⟩
      have c1 := (HA.out.keep HKR.out.drew id).dig k (by omega)
      have c2 := (HB.out.keep HKR.out.drew id).dig k (by omega)
      have d1 := (HA.out.keep HKR.out.drew.drew id).dig k (by omega)
      have d2 := (HB.out.keep HKR.out.drew.drew id).dig k (by omega)
      have HLT := hid (fun h => dg_less HEQ.out h : dgN m k < dgN n k → m < n)
      have HGT := hid (fun h => dg_less HEQ.out.symm h : dgN n k < dgN m k → n < m)
      have HEE := hid (fun h => dg_eq HEQ.out h : dgN m k = dgN n k → m / 256 ^ k = n / 256 ^ k)
      generalize dgN m k = x at *
      generalize dgN n k = y at *
      by_cases hgt : y < x
      · have g2 : decide ((y : Int) < (x : Int)) = true := decide_eq_true (by omega)
        have g3 : decide (y < x) = true := decide_eq_true hgt
        have G := hid (cmpN_gt (HGT.out hgt))
        go_wp2_with fail
        refine Plan.wp_region_pl [(false, 0, []), (false, 1, []), (false, 2, []), (false, 3, []), (false, 4, []), (false, 5, []), (false, 6, []), (false, 7, []), (false, 8, [])] (by kernel_rfl) (by kernel_rfl) ?_
        iterate 9 (refine Plan.pl_st rfl ?_; go_big_quiet_step (fail); refine wpQuiet_nil ?_)
        refine Plan.pl_end ?_
        go_wp2
        go_ret
        exact ⟨by rw [G.out]; rfl, HK.out.trans HKR.out.drew⟩
      have g2 : decide ((y : Int) < (x : Int)) = false := decide_eq_false (by omega)
      have g3 : decide (y < x) = false := decide_eq_false hgt
      by_cases hlt : x < y
      · have g4 : decide ((x : Int) < (y : Int)) = true := decide_eq_true (by omega)
        have g5 : decide (x < y) = true := decide_eq_true hlt
        have G := hid (cmpN_lt (HLT.out hlt))
        go_wp2_with fail
        refine Plan.wp_region_pl [(false, 0, []), (false, 1, []), (false, 2, []), (false, 3, []), (false, 4, []), (false, 5, []), (false, 6, []), (false, 7, []), (false, 8, [])] (by kernel_rfl) (by kernel_rfl) ?_
        iterate 9 (refine Plan.pl_st rfl ?_; go_big_quiet_step (fail); refine wpQuiet_nil ?_)
        refine Plan.pl_end ?_
        go_wp2_with fail
        refine Plan.wp_region_pl [(false, 0, []), (false, 1, []), (false, 2, []), (false, 3, []), (false, 4, []), (false, 5, []), (false, 6, []), (false, 7, []), (false, 8, [])] (by kernel_rfl) (by kernel_rfl) ?_
        iterate 9 (refine Plan.pl_st rfl ?_; go_big_quiet_step (fail); refine wpQuiet_nil ?_)
        refine Plan.pl_end ?_
        go_wp2
        go_ret
        exact ⟨by rw [G.out]; rfl, HK.out.trans HKR.out.drew.drew⟩
      have g4 : decide ((x : Int) < (y : Int)) = false := decide_eq_false (by omega)
      have g5 : decide (x < y) = false := decide_eq_false hlt
      have G := hid (HEE.out (by omega))
      go_wp2_with fail
      refine Plan.wp_region_pl [(false, 0, []), (false, 1, []), (false, 2, []), (false, 3, []), (false, 4, []), (false, 5, []), (false, 6, []), (false, 7, []), (false, 8, [])] (by kernel_rfl) (by kernel_rfl) ?_
      iterate 9 (refine Plan.pl_st rfl ?_; go_big_quiet_step (fail); refine wpQuiet_nil ?_)
      refine Plan.pl_end ?_
      go_wp2_with fail
      refine Plan.wp_region_pl [(false, 0, []), (false, 1, []), (false, 2, []), (false, 3, []), (false, 4, []), (false, 5, []), (false, 6, []), (false, 7, []), (false, 8, [])] (by kernel_rfl) (by kernel_rfl) ?_
      iterate 9 (refine Plan.pl_st rfl ?_; go_big_quiet_step (fail); refine wpQuiet_nil ?_)
      refine Plan.pl_end ?_
      go_wp2
      go_roundw
      case rel => exact ⟨k, by omega, by first | rfl | go_num, G.out, HKR.out.drew.drew⟩
      case measure => simp [intOf]
    | zero =>
      have G := hid (cmpN_eq (a := m) (b := n) (by have := HEQ.out; simpa using this))
      go_wp2
      go_ret
      exact ⟨by rw [G.out]; rfl, HK.out.trans HKR.out⟩

set_option maxRecDepth 20000 in
set_option maxHeartbeats 2000000 in
theorem r_good (x : WI) (hx : x.fit) (w : World) : Calls Try.prog 47 #[WV x] w fun r w' => r = .returned (.bool x.form) ∧ Keep (fun _ => False) w w' := by
  obtain ⟨ng, hi, lo⟩ := x
  have hf1 := hx.1
  have hf2 := hx.2
  simp only at hf1 hf2
  have HK := hid ((Keep.refl (fun _ => False) w).alloc (.cells #[.bool ng, .int .u64 (hi : Int), .int .u64 (lo : Int)] 57))
  have hform : WI.form ⟨ng, hi, lo⟩ = (decide (hi < 9223372036854775808) && (!ng || decide (hi * 18446744073709551616 + lo ≠ 0))) := rfl
  rw [hform]
  clear hform hx
  go_enter Try.func47, Try.ntmps47
  by_cases h1 : hi < 9223372036854775808
  · have g1 : decide ((hi : Int) < 9223372036854775808) = true := decide_eq_true (by omega)
    have g1' : decide (hi < 9223372036854775808) = true := decide_eq_true h1
    rw [g1']
    cases ng
    · go_wp2
      go_ret
      exact ⟨rfl, HK.out⟩
    · by_cases h2 : hi = 0
      · by_cases h3 : lo = 0
        · subst h2; subst h3
          go_wp2
          go_ret
          exact ⟨rfl, HK.out⟩
        · subst h2
          have g3 : ((lo : Int) == 0) = false := beq_eq_false_iff_ne.2 (by omega)
          have g4 : (lo == 0) = false := beq_eq_false_iff_ne.2 h3
          have G : Hid (decide (0 * 18446744073709551616 + lo ≠ 0) = true) := hid (decide_eq_true (by omega))
          go_wp2
          go_ret
          exact ⟨by rw [G.out]; rfl, HK.out⟩
      · have g3 : ((hi : Int) == 0) = false := beq_eq_false_iff_ne.2 (by omega)
        have g4 : (hi == 0) = false := beq_eq_false_iff_ne.2 h2
        have G : Hid (decide (hi * 18446744073709551616 + lo ≠ 0) = true) := hid (decide_eq_true (by omega))
        go_wp2
        go_ret
        exact ⟨by rw [G.out]; rfl, HK.out⟩
  · have g1 : decide ((hi : Int) < 9223372036854775808) = false := decide_eq_false (by omega)
    have g1' : decide (hi < 9223372036854775808) = false := decide_eq_false h1
    rw [g1']
    go_wp2
    go_ret
    exact ⟨rfl, HK.out⟩
end Go.Proofs.Ytkgkcnmnfhehfaa
