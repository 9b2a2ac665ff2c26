/- What is proved: clones of rows and whether two rows are equal. -/
import Derived.Test.YtmckidhedogcaaaEntLeast
import Derived.Test.YtmckidhedogcaaaHeap3
namespace Go.Proofs.Ytmckidhedogcaaa
open Go.RowKit Go.Proofs.Heap Go.Proofs.HeapLaw

/-- slices.Clone[[]int,int] of a row. -/
theorem cl_ints (w : World) (g c m : Nat) (xs : List Value) (ho : w.ownsRow 0 3 1 (.slice (some ⟨g, 0, none⟩) m c) m xs) (h1 : ∀ u ∈ xs, u.oneCell' = true) (hm : m ≤ 65536) :
    Calls Try.prog 32 #[.slice (some ⟨g, 0, none⟩) m c] w fun e w' => ∃ g' c', e = .returned (.slice (some ⟨g', 0, none⟩) m c') ∧ w.heap.size ≤ g' ∧ w'.ownsRow 0 3 1 (.slice (some ⟨g', 0, none⟩) m c') m xs ∧ Keep (fun _ => False) w w' := by
  obtain ⟨i0, hi0, hz0, hz1, hz2⟩ := info_parts info_int
  have hl := ho.1
  have hnil := fun (w : World) => Lib.run_eql_slice_nil (P := Try.prog) w 29 3 (some ⟨g, 0, none⟩) m c 0 0 Try.underlying29
  have hrd : Rd (w.alloc (.cells #[] 3)) 1 (.slice (some ⟨g, 0, none⟩) m c) m xs := rd_own (ho.alloc _) h1
  have hown := owns_fresh (e := 3) (base := w.heap.size) (xs := []) (n := 0) w (Nat.le_refl _) rfl (by unfold maxLen; omega)
  have HR := hid hrd; have HO := hid hown
  clear ho hrd hown hl h1
  go_enter Try.func32, Try.ntmps32
  go_wp2_with (first
    | (at_builtin; refine wpList_append_rd rfl _ _ _ rfl w.heap.size _ i0 _ 1 8 Try.underlying29 hi0 hz0 hz1 hz2 rfl (by decide) _ 0 _ (by rfl) HO.out _ m xs (by rfl) HR.out (by unfold maxLen; omega) (by omega) (by simp) ?_; intro v' w1 hown1 hgrow1 hat1 hn1))
  go_ret
  have hk : Keep (fun _ => False) w w1 := ((Keep.refl _ w).alloc _).grown hgrow1 (by intro k hk; simp [Value.ownBlock] at hk; exact .inl (by omega))
  rcases owns_block hown1 with ⟨rfl, _⟩ | ⟨g', c', cur, rfl, hb, _⟩
  · simp [Value.ownBlock] at hat1
  · refine ⟨g', c', by simp, hb, by simpa using owns_low hown1, hk⟩

/-- slices.Clone[[]bool,bool] of a row. -/
theorem cl_bools (w : World) (g c m : Nat) (xs : List Value) (ho : w.ownsRow 0 4 1 (.slice (some ⟨g, 0, none⟩) m c) m xs) (h1 : ∀ u ∈ xs, u.oneCell' = true) (hm : m ≤ 65536) :
    Calls Try.prog 33 #[.slice (some ⟨g, 0, none⟩) m c] w fun e w' => ∃ g' c', e = .returned (.slice (some ⟨g', 0, none⟩) m c') ∧ w.heap.size ≤ g' ∧ w'.ownsRow 0 4 1 (.slice (some ⟨g', 0, none⟩) m c') m xs ∧ Keep (fun _ => False) w w' := by
  obtain ⟨i0, hi0, hz0, hz1, hz2⟩ := info_parts info_bool
  have hl := ho.1
  have hnil := fun (w : World) => Lib.run_eql_slice_nil (P := Try.prog) w 65 4 (some ⟨g, 0, none⟩) m c 0 0 Try.underlying65
  have hrd : Rd (w.alloc (.cells #[] 4)) 1 (.slice (some ⟨g, 0, none⟩) m c) m xs := rd_own (ho.alloc _) h1
  have hown := owns_fresh (e := 4) (base := w.heap.size) (xs := []) (n := 0) w (Nat.le_refl _) rfl (by unfold maxLen; omega)
  have HR := hid hrd; have HO := hid hown
  clear ho hrd hown hl h1
  go_enter Try.func33, Try.ntmps33
  go_wp2_with (first
    | (at_builtin; refine wpList_append_rd rfl _ _ _ rfl w.heap.size _ i0 _ 1 1 Try.underlying65 hi0 hz0 hz1 hz2 rfl (by decide) _ 0 _ (by rfl) HO.out _ m xs (by rfl) HR.out (by unfold maxLen; omega) (by omega) (by simp) ?_; intro v' w1 hown1 hgrow1 hat1 hn1))
  go_ret
  have hk : Keep (fun _ => False) w w1 := ((Keep.refl _ w).alloc _).grown hgrow1 (by intro k hk; simp [Value.ownBlock] at hk; exact .inl (by omega))
  rcases owns_block hown1 with ⟨rfl, _⟩ | ⟨g', c', cur, rfl, hb, _⟩
  · simp [Value.ownBlock] at hat1
  · refine ⟨g', c', by simp, hb, by simpa using owns_low hown1, hk⟩

/-- slices.Clone[retrofit/entity.queue,int] of a row. -/
theorem cl_queue (w : World) (g c m : Nat) (xs : List Value) (ho : w.ownsRow 0 3 1 (.slice (some ⟨g, 0, none⟩) m c) m xs) (h1 : ∀ u ∈ xs, u.oneCell' = true) (hm : m ≤ 65536) :
    Calls Try.prog 34 #[.slice (some ⟨g, 0, none⟩) m c] w fun e w' => ∃ g' c', e = .returned (.slice (some ⟨g', 0, none⟩) m c') ∧ w.heap.size ≤ g' ∧ w'.ownsRow 0 3 1 (.slice (some ⟨g', 0, none⟩) m c') m xs ∧ Keep (fun _ => False) w w' := by
  obtain ⟨i0, hi0, hz0, hz1, hz2⟩ := info_parts info_int
  have hl := ho.1
  have hnil := fun (w : World) => Lib.run_eql_slice_nil (P := Try.prog) w 66 3 (some ⟨g, 0, none⟩) m c 0 0 Try.underlying66
  have hrd : Rd (w.alloc (.cells #[] 3)) 1 (.slice (some ⟨g, 0, none⟩) m c) m xs := rd_own (ho.alloc _) h1
  have hown := owns_fresh (e := 3) (base := w.heap.size) (xs := []) (n := 0) w (Nat.le_refl _) rfl (by unfold maxLen; omega)
  have HR := hid hrd; have HO := hid hown
  clear ho hrd hown hl h1
  go_enter Try.func34, Try.ntmps34
  go_wp2_with (first
    | (at_builtin; refine wpList_append_rd rfl _ _ _ rfl w.heap.size _ i0 _ 1 8 Try.underlying66 hi0 hz0 hz1 hz2 rfl (by decide) _ 0 _ (by rfl) HO.out _ m xs (by rfl) HR.out (by unfold maxLen; omega) (by omega) (by simp) ?_; intro v' w1 hown1 hgrow1 hat1 hn1))
  go_ret
  have hk : Keep (fun _ => False) w w1 := ((Keep.refl _ w).alloc _).grown hgrow1 (by intro k hk; simp [Value.ownBlock] at hk; exact .inl (by omega))
  rcases owns_block hown1 with ⟨rfl, _⟩ | ⟨g', c', cur, rfl, hb, _⟩
  · simp [Value.ownBlock] at hat1
  · refine ⟨g', c', by simp, hb, by simpa using owns_low hown1, hk⟩

set_option maxHeartbeats 1000000 in
/-- slices.Equal[[]int,int] of two rows. -/
theorem eq_ints (w : World) (g c g' c' m : Nat) (A B : Nat → Nat) (ho : w.ownsRow 0 3 1 (.slice (some ⟨g, 0, none⟩) m c) m ((List.range m).map fun i => iV (A i))) (ho' : w.ownsRow 0 3 1 (.slice (some ⟨g', 0, none⟩) m c') m ((List.range m).map fun i => iV (B i))) (hm : m ≤ 65536) :
    Calls Try.prog 35 #[.slice (some ⟨g, 0, none⟩) m c, .slice (some ⟨g', 0, none⟩) m c'] w fun e w' => ∃ x : Bool, e = .returned (.bool x) ∧ (x = true ↔ ∀ i, i < m → A i = B i) ∧ Keep (fun _ => False) w w' := by
  have hA : ∀ i, i < m → w.cell? ⟨g, i, none⟩ = some (iV (A i)) := fun i hi => by rw [owns_cell ho hi]; simp [hi]
  have hB : ∀ i, i < m → w.cell? ⟨g', i, none⟩ = some (iV (B i)) := fun i hi => by rw [owns_cell ho' hi]; simp [hi]
  have lA := owns_lt ho
  have lB := owns_lt ho'
  have HA := hid hA; have HB := hid hB
  clear ho ho' hA hB
  go_enter Try.func35, Try.ntmps35
  go_wp2_with fail
  go_loopw [13] (fun i wr => ∃ k : Nat, k ≤ m ∧ i = .int .i64 k ∧ (∀ i, i < k → A i = B i) ∧ Keep (fun _ => False) w wr) (fun i _ => m + 1 - (intOf i).toNat)
  case atStart => exact ⟨0, by omega, by go_num, fun i h => by omega, Keep.refl _ _⟩
  case round =>
    obtain ⟨k, hk, rfl, hall, hkeep⟩ := hrel
    have HALL := hid hall
    clear hall
    by_cases hlt : k < m
    · have hc1 : wr.cell? ⟨g, k, none⟩ = some (iV (A k)) := by rw [World.cell?_of_block (a := ⟨g, k, none⟩) (hkeep.block g lA id)]; exact HA.out k hlt
      have hc2 : wr.cell? ⟨g', k, none⟩ = some (iV (B k)) := by rw [World.cell?_of_block (a := ⟨g', k, none⟩) (hkeep.block g' lB id)]; exact HB.out k hlt
      have hin : (0 : Int) ≤ (k : Int) ∧ (k : Int) < (m : Int) := ⟨by omega, by omega⟩
      have HK := hid hkeep
      clear hkeep
      go_wp2_with fail
      refine Plan.wp_region_reads (by kernel_rfl) (by kernel_rfl) ?_
      repeat (go_big_quiet_step (fail))
      refine wpQuiet_nil ?_
      by_cases hab : A k = B k
      · have HAB := hid hab
        have d1 : ((A k : Int) != (B k : Int)) = false := by simp; omega
        have d2 : (A k != B k) = false := by simp; exact hab
        clear hab
        go_wp2
        go_roundw
        case rel => exact ⟨k + 1, by omega, by go_num, fun i hi => by by_cases e : i = k; exact e ▸ HAB.out; exact HALL.out i (by omega), HK.out.drew⟩
        case measure => simp [intOf]; omega
      · have HAB := hid hab
        have d1 : ((A k : Int) != (B k : Int)) = true := by simp; omega
        have d2 : (A k != B k) = true := by simp; exact hab
        clear hab
        go_wp2
        go_ret
        exact ⟨false, by simp, by simp; exact ⟨k, hlt, HAB.out⟩, HK.out.drew⟩
    · obtain rfl : k = m := by omega
      go_wp2
      go_ret
      exact ⟨true, by simp, by simpa using HALL.out, hkeep⟩

set_option maxHeartbeats 1000000 in
/-- slices.Equal[[]bool,bool] of two rows. -/
theorem eq_bools (w : World) (g c g' c' m : Nat) (A B : Nat → Bool) (ho : w.ownsRow 0 4 1 (.slice (some ⟨g, 0, none⟩) m c) m ((List.range m).map fun i => bV (A i))) (ho' : w.ownsRow 0 4 1 (.slice (some ⟨g', 0, none⟩) m c') m ((List.range m).map fun i => bV (B i))) (hm : m ≤ 65536) :
    Calls Try.prog 36 #[.slice (some ⟨g, 0, none⟩) m c, .slice (some ⟨g', 0, none⟩) m c'] w fun e w' => ∃ x : Bool, e = .returned (.bool x) ∧ (x = true ↔ ∀ i, i < m → A i = B i) ∧ Keep (fun _ => False) w w' := by
  have hA : ∀ i, i < m → w.cell? ⟨g, i, none⟩ = some (bV (A i)) := fun i hi => by rw [owns_cell ho hi]; simp [hi]
  have hB : ∀ i, i < m → w.cell? ⟨g', i, none⟩ = some (bV (B i)) := fun i hi => by rw [owns_cell ho' hi]; simp [hi]
  have lA := owns_lt ho
  have lB := owns_lt ho'
  have HA := hid hA; have HB := hid hB
  clear ho ho' hA hB
  go_enter Try.func36, Try.ntmps36
  go_wp2_with fail
  go_loopw [13] (fun i wr => ∃ k : Nat, k ≤ m ∧ i = .int .i64 k ∧ (∀ i, i < k → A i = B i) ∧ Keep (fun _ => False) w wr) (fun i _ => m + 1 - (intOf i).toNat)
  case atStart => exact ⟨0, by omega, by go_num, fun i h => by omega, Keep.refl _ _⟩
  case round =>
    obtain ⟨k, hk, rfl, hall, hkeep⟩ := hrel
    have HALL := hid hall
    clear hall
    by_cases hlt : k < m
    · have hc1 : wr.cell? ⟨g, k, none⟩ = some (.bool (A k)) := by rw [World.cell?_of_block (a := ⟨g, k, none⟩) (hkeep.block g lA id)]; exact HA.out k hlt
      have hc2 : wr.cell? ⟨g', k, none⟩ = some (.bool (B k)) := by rw [World.cell?_of_block (a := ⟨g', k, none⟩) (hkeep.block g' lB id)]; exact HB.out k hlt
      have hin : (0 : Int) ≤ (k : Int) ∧ (k : Int) < (m : Int) := ⟨by omega, by omega⟩
      have HK := hid hkeep
      clear hkeep
      cases ha : A k <;> cases hb : B k <;> rw [ha] at hc1 <;> rw [hb] at hc2
      · have HAB : Hid (A k = B k) := by rw [ha, hb]; exact rfl
        clear ha hb
        go_wp2_with fail
        refine Plan.wp_region_reads (by kernel_rfl) (by kernel_rfl) ?_
        repeat (go_big_quiet_step (fail))
        refine wpQuiet_nil ?_
        go_wp2
        go_roundw
        case rel => exact ⟨k + 1, by omega, by go_num, fun i hi => by by_cases e : i = k; exact e ▸ HAB.out; exact HALL.out i (by omega), HK.out.drew⟩
        case measure => simp [intOf]; omega
      · have HAB : Hid (A k ≠ B k) := fun h => by rw [ha, hb] at h; cases h
        clear ha hb
        go_wp2_with fail
        refine Plan.wp_region_reads (by kernel_rfl) (by kernel_rfl) ?_
        repeat (go_big_quiet_step (fail))
        refine wpQuiet_nil ?_
        go_wp2
        go_ret
        exact ⟨false, by simp, ⟨(fun h => by cases h), (fun h => absurd (h k hlt) HAB.out)⟩, HK.out.drew⟩
      · have HAB : Hid (A k ≠ B k) := fun h => by rw [ha, hb] at h; cases h
        clear ha hb
        go_wp2_with fail
        refine Plan.wp_region_reads (by kernel_rfl) (by kernel_rfl) ?_
        repeat (go_big_quiet_step (fail))
        refine wpQuiet_nil ?_
        go_wp2
        go_ret
        exact ⟨false, by simp, ⟨(fun h => by cases h), (fun h => absurd (h k hlt) HAB.out)⟩, HK.out.drew⟩
      · have HAB : Hid (A k = B k) := by rw [ha, hb]; exact rfl
        clear ha hb
        go_wp2_with fail
        refine Plan.wp_region_reads (by kernel_rfl) (by kernel_rfl) ?_
        repeat (go_big_quiet_step (fail))
        refine wpQuiet_nil ?_
        go_wp2
        go_roundw
        case rel => exact ⟨k + 1, by omega, by go_num, fun i hi => by by_cases e : i = k; exact e ▸ HAB.out; exact HALL.out i (by omega), HK.out.drew⟩
        case measure => simp [intOf]; omega
    · obtain rfl : k = m := by omega
      go_wp2
      go_ret
      exact ⟨true, by simp, by simpa using HALL.out, hkeep⟩

end Go.Proofs.Ytmckidhedogcaaa
