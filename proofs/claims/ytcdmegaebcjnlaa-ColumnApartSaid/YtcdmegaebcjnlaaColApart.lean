/- What is proved: the walk of 'ColumnApart': it returns true and writes nothing that was there. -/
import Derived.Test.YtcdmegaebcjnlaaColAwake
import Derived.Test.YtcdmegaebcjnlaaColRef
namespace Go.Proofs.Ytcdmegaebcjnlaa
open Go.RowKit Go.Proofs.Heap Go.Proofs.Col

/-- What holds of the column while it is filled. -/
structure Apart (w wr : World) (c sz : Nat) (rows : List (List UInt8)) (F : List Nat) : Prop where
  col : TC wr c sz 60 rows F
  low : ∀ k ∈ F, w.heap.size ≤ k
  below : Below w.heap.size w wr

theorem Apart.app {w wr w3 : World} {c sz : Nat} {rows rows' : List (List UInt8)} {F F' : List Nat} (h : Apart w wr c sz rows F) (hc : TC w3 c sz 60 rows' F') (hk : Keep (fun k => k ∈ F) wr w3) (hf : ∀ k ∈ F', k ∈ F ∨ wr.heap.size ≤ k) : Apart w w3 c sz rows' F' :=
  { col := hc
    low := fun k hk' => by have := h.below.size; rcases hf k hk' with e | e; exact h.low k e; omega
    below := below_keep h.below hk h.low (Nat.le_refl _) }

theorem place_val (z : Int) (n : Nat) (hn : 0 < n) (hb : n ≤ 60) : ∃ q : Nat, wrap64 ((IntKind.u64.wrap z).tmod (n : Int)) = (q : Int) ∧ q < n := by
  have h := IntKind.wrap_u64 z
  generalize IntKind.u64.wrap z = y at h
  have h0 : 0 ≤ y := by omega
  rw [Int.tmod_eq_emod_of_nonneg h0]
  have h1 := Int.emod_nonneg y (show (n : Int) ≠ 0 by omega)
  have h2 := Int.emod_lt_of_pos y (show (0 : Int) < (n : Int) by omega)
  refine ⟨(y % (n : Int)).toNat, ?_, by omega⟩
  unfold wrap64
  omega

set_option maxRecDepth 100000 in
set_option maxHeartbeats 2000000 in
theorem apart_walk (a : Option Addr) (len cap : Nat) (at_ : Int) (row : ByteArray) (w : World) (hr : len = 0 ∨ ∃ b off, a = some ⟨b, off, none⟩ ∧ b < w.heap.size ∧ ∀ i, i < len → ∃ s, w.cell? ⟨b, off + i, none⟩ = some (.string s)) :
    Calls Try.prog 4 #[.slice a len cap, .int .i64 at_, .string row] w fun e w' => e = .returned (.bool true) ∧ Below w.heap.size w w' := by
  have HR := hid hr
  clear hr
  go_enter Try.func4, Try.ntmps4
  go_wp2_with fail
  refine (awake_true w).mono ?_
  rintro e w1 ⟨rfl, hb1⟩
  have hs1 := hb1.size
  have HB1 := hid hb1
  clear hb1
  by_cases hg : (60 : Int) < (len : Int)
  · go_wp2
    go_ret
    exact ⟨rfl, HB1.out⟩
  by_cases hg0 : len = 0
  · subst hg0
    go_wp2
    go_ret
    exact ⟨rfl, HB1.out⟩
  have hg0' : ((len : Int) == 0) = false := by simp; omega
  have hg60 : len ≤ 60 := by omega
  by_cases hrs : (20 : Int) < (row.size : Int)
  · clear hg0
    go_wp2
    go_ret
    exact ⟨rfl, HB1.out⟩
  have hrow : row.size ≤ 20 := by omega
  clear hg0
  go_wp2_with fail
  refine (tc_new row.size 60 w1 (by omega) (by omega) (by omega)).mono ?_
  rintro e w2 ⟨rfl, hc2, hb2⟩
  have hs2 := hb2.size
  have hA0 : Apart w w2 w1.heap.size row.size [] [w1.heap.size] := { col := hc2, low := by simp; omega, below := HB1.out.trans (hb2.mono hs1) }
  have HA := hid hA0
  clear hA0 hc2 hb2 HB1
  go_wp2
  go_loopw [8] (fun i wr => ∃ (k : Nat) (rows : List (List UInt8)) (F : List Nat), k ≤ len ∧ i = .int .i64 k ∧ rows.length = k ∧ Apart w wr w1.heap.size row.size rows F) (fun i _ => len - (intOf i).toNat)
  case atStart => exact ⟨0, [], _, by omega, rfl, rfl, HA.out⟩
  case round =>
    clear HA
    obtain ⟨k, rows, F, hk, rfl, hkl, hh⟩ := hrel
    have hH := hid hh
    clear hh
    obtain ⟨wo, hwo⟩ : ∃ wo : World, wo = wr := ⟨_, rfl⟩
    subst hwo
    by_cases hlt : k < len
    · rcases HR.out with h0 | ⟨b, off, rfl, hbl, hcell⟩
      · omega
      obtain ⟨s0, hs0⟩ := hcell k hlt
      have hc := (hH.out.below.cell (p := ⟨b, off + k, none⟩) hbl).trans hs0
      have hki : (0 : Int) ≤ (k : Int) ∧ (k : Int) < (len : Int) := ⟨by omega, by omega⟩
      clear hcell hs0
      go_wp2
      go_loopw [9] (fun s wr => ∃ s', s = .string s' ∧ wr = wo) (fun s _ => row.size - (match s with | .string s' => s'.size | _ => 0))
      case atStart => exact ⟨_, rfl, rfl⟩
      case round =>
        obtain ⟨s', rfl, rfl⟩ := hrel
        by_cases hsl : (s'.size : Int) < (row.size : Int)
        · go_wp2
          go_roundw
          case rel => exact ⟨_, rfl, trivial⟩
          case measure =>
            have e : (s' ++ ({ data := #[46] } : ByteArray)).size = s'.size + 1 := by rw [ByteArray.size_append]; rfl
            show row.size - (s' ++ ({ data := #[46] } : ByteArray)).size < row.size - s'.size
            omega
        · have hsl' : row.size ≤ s'.size := by omega
          go_wp2_with fail
          refine (tc_append _ hH.out.col _ ?_ (by omega)).mono ?_
          · rw [ByteArray.size_extract]; omega
          rintro e w3 ⟨rfl, F', hc3, hk3, hf3⟩
          have hA3 := hH.out.app hc3 hk3 hf3
          have HA3 := hid hA3
          clear hA3 hc3 hk3 hf3
          go_wp2
          go_roundw
          case rel => exact ⟨k + 1, _, _, by omega, by go_num, by simp [hkl], HA3.out⟩
          case measure => simp [intOf]; omega
    · have hkz : ¬ k = 0 := by simp at hg0'; omega
      obtain rfl : k = len := by omega
      go_wp2_with fail
      refine (tc_rows wo hH.out.col).mono ?_
      rintro e w3 ⟨out, rfl, hown, hb3⟩
      obtain ⟨p, c, rfl⟩ := owns_val hown
      have HKL := hid hkl
      have hsl : Value.slice p rows.length c = .slice p k c := by rw [hkl]
      rw [hsl]
      clear hkl hsl
      have hB3 := hH.out.below.trans (hb3.mono hH.out.below.size)
      have hc3 : TC w3 w1.heap.size row.size 60 rows F := hH.out.col.keep fun j hj => hb3.block j (hH.out.col.lt j hj)
      have HO := hid hown; have HB3 := hid hB3; have HC3 := hid hc3
      clear hown hB3 hc3
      go_wp2_with fail
      obtain ⟨q, hq, hq1⟩ := place_val at_ k (by omega) hg60
      rw [hq]
      clear hq
      refine (tc_clone w3 HC3.out).mono ?_
      rintro e w4 ⟨rfl, F', hc4, hb4, hf4⟩
      have hs34 := hb4.size
      have hsw3 := HB3.out.size
      have hkk4 : Keep (fun _ => False) w3 w4 := Keep.of_below hb4
      have HC4 := hid hc4; have HF4 := hid hf4; have HK4 := hid hb4
      clear hc4 hf4 hkk4 hb4
      go_wp2_with fail
      refine (tc_set w4 HC4.out (q : Int) (by omega) (by have := HKL.out; omega) row rfl).mono ?_
      rintro e w5 ⟨rfl, hc5, hk5⟩
      have HC5 := hid hc5; have HK5 := hid hk5
      clear hc5 hk5
      have hc5' : TC w5 w1.heap.size row.size 60 rows F := HC3.out.keep fun j hj => (HK5.out.block j (by have := HC3.out.lt j hj; omega) (fun hm => by have := HF4.out j hm; have := HC3.out.lt j hj; omega)).trans (HK4.out.block j (HC3.out.lt j hj))
      have hown5 : w5.ownsRow wo.heap.size 9 1 (.slice p rows.length c) rows.length (rows.map rowS) := owns_keep HO.out (fun g hg => by
        have hgl := (HO.out.lt g hg).2
        exact (HK5.out.block g (by omega) (fun hm => by have := HF4.out g hm; omega)).trans (HK4.out.block g hgl))
      have hB5 : Below w.heap.size w w5 := below_keep (HB3.out.trans (HK4.out.mono hsw3)) HK5.out (fun j hj => by have := HF4.out j hj; omega) (Nat.le_refl _)
      have HC5' := hid hc5'; have HO5 := hid hown5; have HB5 := hid hB5
      clear hc5' hown5 hB5
      go_wp2_with fail
      refine (tc_rows w5 HC5'.out).mono ?_
      rintro e w6 ⟨out2, rfl, hown2, hb6⟩
      have hown6 := owns_keep HO5.out (fun g hg => hb6.block g (HO5.out.lt g hg).2)
      have hc6 : TC w6 w3.heap.size row.size 60 _ F' := HC5.out.keep fun j hj => hb6.block j (HC5.out.lt j hj)
      have hB6 := HB5.out.trans (hb6.mono HB5.out.size)
      have hsame := rows_same w6 hown2 hown6 (by have := HKL.out; omega) rfl
      rw [HKL.out] at hsame
      have HS := hid hsame; have HO6 := hid hown6; have HC6 := hid hc6; have HB6 := hid hB6
      clear hsame hown6 hc6 hB6 hown2 hb6
      go_wp2_with fail
      refine HS.out.mono ?_
      rintro e w7 ⟨rfl, n7, rfl⟩
      go_wp2_with fail
      have hc7 : TC (w6.drewN n7) w3.heap.size row.size 60 _ F' := HC6.out.keep fun _ _ => rfl
      refine (tc_rows _ hc7).mono ?_
      rintro e w8 ⟨out3, rfl, hown3, hb8⟩
      clear hc7
      have hown8 := owns_keep (w' := w8) HO6.out (fun g hg => hb8.block g (HO6.out.lt g hg).2)
      have hB8 : Below w.heap.size w w8 := (below_drewN HB6.out n7).trans (hb8.mono HB6.out.size)
      obtain ⟨p3, c3, rfl⟩ := owns_val hown3
      have HO3 := hid hown3; have HO8 := hid hown8; have HB8 := hid hB8
      have HKL3 : (rows.set (Int.toNat (q : Int)) (bytesOf row)).length = k := by rw [List.length_set]; exact HKL.out
      have hsl : Value.slice p3 (rows.set (Int.toNat (q : Int)) (bytesOf row)).length c3 = .slice p3 k c3 := by rw [HKL3]
      rw [hsl]
      have HL3 := hid HKL3
      clear hown3 hown8 hB8 hb8 hsl HKL3
      go_wp2
      go_loopw [14] (fun i wr => ∃ j n : Nat, j ≤ k ∧ i = .int .i64 j ∧ wr = w8.drewN n) (fun i _ => k - (intOf i).toNat)
      case atStart => exact ⟨0, 0, Nat.zero_le _, rfl, rfl⟩
      case round =>
        obtain ⟨j, n, hj, rfl, rfl⟩ := hrel
        by_cases hjl : j < k
        · obtain ⟨g, c', e1, h1⟩ := owns_row (k := j) HO8.out (by have := HKL.out; omega)
          obtain ⟨g3, c3', e3, h3⟩ := owns_row (k := j) HO3.out (by have := HL3.out; omega)
          injection e1 with e1 _ e2
          injection e3 with e3 _ e4
          subst e1; subst e2; subst e3; subst e4
          have hjj : (0 : Int) ≤ (j : Int) ∧ (j : Int) < (k : Int) := ⟨by omega, by omega⟩
          by_cases hjq : j = q
          · have h3' : w8.cell? ⟨g3, j, none⟩ = some (.string row) := by
              rw [h3]; simp [hjq, rowS_bytes]
            have hjqi : ((j : Int) == (q : Int)) = true := beq_iff_eq.2 (by omega)
            have hjqn : ((j : Int) != (q : Int)) = false := by simp; omega
            clear h3 h1 hjq
            go_wp2
            refine Plan.wp_region_reads (by kernel_rfl) (by kernel_rfl) ?_
            repeat (go_big_quiet_step (fail))
            refine wpQuiet_nil ?_
            go_wp2
            go_roundw
            case rel => exact ⟨j + 1, n + 1, by omega, by go_num, rfl⟩
            case measure => simp [intOf]; omega
          · have hjr : j < rows.length := by have := HKL.out; omega
            have h3' : w8.cell? ⟨g3, j, none⟩ = some (rowS (rows[j]'hjr)) := by
              have e : q ≠ j := fun e => hjq e.symm
              rw [h3]; simp [e]
            have hjqi : ((j : Int) == (q : Int)) = false := by simp; omega
            have hjqn : ((j : Int) != (q : Int)) = true := by simp; omega
            clear h3 hjq
            generalize rows[j] = x at h1 h3'
            go_wp2
            refine Plan.wp_region_reads (by kernel_rfl) (by kernel_rfl) ?_
            repeat (go_big_quiet_step (fail))
            refine wpQuiet_nil ?_
            go_wp2
            go_roundw
            case rel => exact ⟨j + 1, n + 1, by omega, by go_num, rfl⟩
            case measure => simp [intOf]; omega
        · go_wp2
          go_ret
          exact ⟨rfl, below_drewN HB8.out n⟩

end Go.Proofs.Ytcdmegaebcjnlaa
