/- What is proved: whether two rows of texts are the same: what slices.Equal answers. -/
import Derived.Test.YtdekdefjfaoclaaDoorSchSame
import Derived.Test.YtdekdefjfaoclaaDoorRegion
namespace Go.Proofs.YtdekdefjfaoclaaDoor
open Go.RowKit Go.Proofs.Heap Go.Proofs.Sch

set_option maxRecDepth 20000 in
set_option maxHeartbeats 4000000 in
theorem eq_strs (a b : List ByteArray) (p : Option Addr) (z : Nat) (p2 : Option Addr) (z2 : Nat) (w : World) (base : Nat) (base2 : Nat) (hl : a.length ≤ 65536) (ha : w.ownsRow base 9 1 (.slice p a.length z) a.length (a.map Value.string)) (hb : w.ownsRow base2 9 1 (.slice p2 b.length z2) b.length (b.map Value.string)) :
    Calls Tryd.prog 36 #[.slice p a.length z, .slice p2 b.length z2] w fun r w' => r = .returned (.bool (decide (a = b))) ∧ Keep (fun _ => False) w w' := by
  have HA := hid ha; have HB := hid hb
  clear ha hb
  go_enter Tryd.func36, Tryd.ntmps36
  by_cases h1 : a.length = b.length
  rotate_left
  · have g1 : ((a.length : Int) != (b.length : Int)) = true := by simp only [bne, beq_eq_false_iff_ne.2 (show (a.length : Int) ≠ (b.length : Int) by omega)]; rfl
    have g2 : (a.length != b.length) = true := by simp only [bne, beq_eq_false_iff_ne.2 h1]; rfl
    have G : Hid (decide (a = b) = false) := hid (decide_eq_false (fun e => h1 (by rw [e])))
    go_wp2
    go_ret
    exact ⟨by rw [G.out]; rfl, Keep.refl _ _⟩
  have HAB := hid h1
  rw [← h1] at HB ⊢
  clear h1
  go_wp2_with fail
  go_loopw [5, 13] (fun _ i wr => ∃ k : Nat, k ≤ a.length ∧ i = iV k ∧ (∀ j, j < k → a[j]? = b[j]?) ∧ Keep (fun _ => False) w wr) (fun _ i _ => a.length + 1 - (intOf i).toNat)
  case atStart => exact ⟨0, Nat.zero_le _, rfl, fun j hj => absurd hj (Nat.not_lt_zero j), Keep.refl _ _⟩
  case round =>
    obtain ⟨k, hk, rfl, hal, hkr⟩ := hrel
    have HAL := hid hal; have HKR := hid hkr
    clear hal hkr
    by_cases hlt : k < a.length
    · obtain ⟨x, hx⟩ : ∃ x, a[k]? = some x := ⟨a[k], by simp [hlt]⟩
      obtain ⟨y, hy⟩ : ∃ y, b[k]? = some y := ⟨b[k]'(by have := HAB.out; omega), by simp [show k < b.length by have := HAB.out; omega]⟩
      obtain ⟨g, rfl⟩ := owns_some HA.out (by omega)
      obtain ⟨g2, rfl⟩ := owns_some HB.out (by omega)
      have HA2 := owns_keep HA.out (fun q hq => HKR.out.block q (HA.out.lt q hq).2 (fun h => h))
      have HB2 := owns_keep HB.out (fun q hq => HKR.out.block q (HB.out.lt q hq).2 (fun h => h))
      have c0 : wr.drew.cell? ⟨g, k, none⟩ = some (Value.string x) := (owns_cell HA2 hlt).trans (by rw [List.getElem?_map, hx]; rfl)
      have c1 : wr.drew.cell? ⟨g2, k, none⟩ = some (Value.string y) := (owns_cell HB2 hlt).trans (by rw [List.getElem?_map, hy]; rfl)
      have hin : (0 : Int) ≤ (k : Int) ∧ (k : Int) < (a.length : Int) := ⟨by omega, by omega⟩
      have HXY := hid hx; have HXY2 := hid hy
      clear HA2 HB2 hx hy
      by_cases hxy : x = y
      · subst hxy
        have HN : Hid (∀ j, j < k + 1 → a[j]? = b[j]?) := hid (fun j hj => by
          by_cases hjk : j < k
          · exact HAL.out j hjk
          · obtain rfl : j = k := by omega
            rw [HXY.out, HXY2.out])
        go_upto_region 6 with fail
        refine Plan.wp_region_reads (by kernel_rfl) (by kernel_rfl) ?_
        iterate 9 (go_big_quiet_step (fail))
        refine wpQuiet_nil ?_
        go_wp2
        go_roundw
        case rel => exact ⟨k + 1, by omega, by go_num, HN.out, HKR.out.drew⟩
        case measure => simp [intOf]; omega
      · have g2 : (!x.toList == y.toList) = true := by rw [beq_eq_false_iff_ne.2 (fun h => hxy (toList_inj h))]; rfl
        have G : Hid (decide (a = b) = false) := hid (decide_eq_false (fun e => hxy (by
          have h1 := HXY.out; have h2 := HXY2.out
          rw [e, h2] at h1; injection h1 with h1; exact h1.symm)))
        go_upto_region 6 with fail
        refine Plan.wp_region_reads (by kernel_rfl) (by kernel_rfl) ?_
        iterate 9 (go_big_quiet_step (fail))
        refine wpQuiet_nil ?_
        go_wp2
        go_ret
        exact ⟨by rw [G.out]; rfl, HKR.out.drew⟩
    · obtain rfl : k = a.length := by omega
      have g0 : decide ((a.length : Int) < (a.length : Int)) = false := decide_eq_false (by omega)
      have G : Hid (decide (a = b) = true) := hid (decide_eq_true (List.ext_getElem? (fun j => by
        by_cases hj : j < a.length
        · exact HAL.out j hj
        · rw [List.getElem?_eq_none (by omega), List.getElem?_eq_none (by have := HAB.out; omega)])))
      go_wp2
      go_ret
      exact ⟨by rw [G.out]; rfl, HKR.out⟩

theorem eq_strs' (a b : List ByteArray) (n m : Nat) (p : Option Addr) (z : Nat) (p2 : Option Addr) (z2 : Nat) (w : World) (base : Nat) (base2 : Nat) (hl : n ≤ 65536) (hn : a.length = n) (hm : b.length = m) (ha : w.ownsRow base 9 1 (.slice p n z) n (a.map Value.string)) (hb : w.ownsRow base2 9 1 (.slice p2 m z2) m (b.map Value.string)) :
    Calls Tryd.prog 36 #[.slice p n z, .slice p2 m z2] w fun r w' => r = .returned (.bool (decide (a = b))) ∧ Keep (fun _ => False) w w' := by
  subst hn; subst hm
  exact eq_strs a b p z p2 z2 w base base2 hl ha hb
end Go.Proofs.YtdekdefjfaoclaaDoor
