/- What is proved: what layout's Start, Elems and Zero answer of any fields. -/
import Derived.Test.YtkgkcnmnfhehfaaLayOf
import Derived.Test.YtkgkcnmnfhehfaaUnpack
namespace Go.Proofs.Ytkgkcnmnfhehfaa
open Go.RowKit Go.Proofs.Heap Go.Proofs.Sch Go.Proofs.Wide

/-- How many elements; how many stand ahead of a field. -/
def elN (fs : List Fld) : Nat := if layC fs = 0 then sumN fs else 0
def stN (fs : List Fld) (i : Int) : Nat := if layC fs = 0 ∧ 0 ≤ i ∧ i < fs.length then sumN (fs.take i.toNat) else 0

set_option maxRecDepth 20000 in
set_option maxHeartbeats 8000000 in
theorem elems_any (fs : List Fld) (p : Option Addr) (cap : Nat) (w : World) (hcap : fs.length ≤ cap) (hf : FP w w.heap.size p fs) :
    Calls Try.prog 19 #[.slice p fs.length cap] w fun r w' => r = .returned (iV (elN fs)) ∧ Keep (fun _ => False) w w' := by
  by_cases h0 : layC fs = 0
  · have e : elN fs = sumN fs := by unfold elN; rw [if_pos h0]
    rw [e]
    exact lay_elems fs p cap w h0 hcap hf
  have G : Hid (elN fs = 0) := hid (by unfold elN; rw [if_neg h0])
  have HF := hid hf
  clear hf
  obtain ⟨z, hz⟩ : ∃ z, layC fs = z := ⟨_, rfl⟩
  have hC := hid (layout_check fs p cap w HF.out)
  rw [hz] at hC h0
  have g3 : ((z : Int) != 0) = true := by rw [bne, beq_eq_false_iff_ne.2 (show (z : Int) ≠ 0 by omega)]; rfl
  have g4 : (z != 0) = true := by rw [bne, beq_eq_false_iff_ne.2 h0]; rfl
  clear h0 hz
  go_enter Try.func19, Try.ntmps19
  go_wp2_with fail
  refine hC.out.mono ?_
  rintro r w1 ⟨rfl, hk1⟩
  have HK1 := hid hk1
  clear hk1
  go_wp2
  go_ret
  exact ⟨by rw [G.out]; rfl, HK1.out⟩

set_option maxRecDepth 20000 in
set_option maxHeartbeats 8000000 in
theorem start_any (fs : List Fld) (p : Option Addr) (cap : Nat) (i : Int) (w : World) (hcap : fs.length ≤ cap) (hf : FP w w.heap.size p fs) :
    Calls Try.prog 23 #[.slice p fs.length cap, .int .i64 i] w fun r w' => r = .returned (iV (stN fs i)) ∧ Keep (fun _ => False) w w' := by
  by_cases hg : layC fs = 0 ∧ 0 ≤ i ∧ i < fs.length
  · obtain ⟨h0, h1, h2⟩ := hg
    have e : stN fs i = sumN (fs.take i.toNat) := by unfold stN; rw [if_pos ⟨h0, h1, h2⟩]
    have h := lay_start fs p cap i.toNat w h0 (by omega) hcap hf
    rw [Int.toNat_of_nonneg h1] at h
    rw [e]
    exact h
  have G : Hid (stN fs i = 0) := hid (by unfold stN; rw [if_neg hg])
  have HF := hid hf
  clear hf
  obtain ⟨z, hz⟩ : ∃ z, layC fs = z := ⟨_, rfl⟩
  have hC := hid (layout_check fs p cap w HF.out)
  rw [hz] at hC hg
  clear hz
  go_enter Try.func23, Try.ntmps23
  go_wp2_with fail
  refine hC.out.mono ?_
  rintro r w1 ⟨rfl, hk1⟩
  have HK1 := hid hk1
  clear hk1
  by_cases h0 : z = 0
  · subst h0
    by_cases h1 : i < 0
    · have g1 : decide (i < 0) = true := decide_eq_true h1
      clear hg
      go_wp2
      go_ret
      exact ⟨by rw [G.out]; rfl, HK1.out⟩
    · have g1 : decide (i < 0) = false := decide_eq_false h1
      have g2 : decide ((fs.length : Int) ≤ i) = true := decide_eq_true (by omega)
      clear hg h1
      go_wp2
      go_ret
      exact ⟨by rw [G.out]; rfl, HK1.out⟩
  · have g3 : ((z : Int) != 0) = true := by rw [bne, beq_eq_false_iff_ne.2 (show (z : Int) ≠ 0 by omega)]; rfl
    have g4 : (z != 0) = true := by rw [bne, beq_eq_false_iff_ne.2 h0]; rfl
    clear h0 hg
    go_wp2
    go_ret
    exact ⟨by rw [G.out]; rfl, HK1.out⟩

theorem elN_le (fs : List Fld) : elN fs ≤ 64 := by
  unfold elN
  split
  · rename_i h
    have h1 := layC_zero h
    have h2 := sumN_le fs h1.2
    omega
  · omega
/-- Noughts made anew. -/
theorem made_zero (n : Nat) (i : Nat) (hi : i < n) : (madeCells (Value.agg #[.bool false, .int .u64 0, .int .u64 0]).cells (n * 3))[i * 3]? = some (.bool false) ∧ (madeCells (Value.agg #[.bool false, .int .u64 0, .int .u64 0]).cells (n * 3))[i * 3 + 1]? = some (.int .u64 0) ∧ (madeCells (Value.agg #[.bool false, .int .u64 0, .int .u64 0]).cells (n * 3))[i * 3 + 2]? = some (.int .u64 0) := by
  have e : (Value.agg #[.bool false, .int .u64 0, .int .u64 0]).cells = #[.bool false, .int .u64 0, .int .u64 0] := by rfl
  rw [e]
  have h0 : i * 3 % 3 = 0 := by omega
  have h1 : (i * 3 + 1) % 3 = 1 := by omega
  have h2 : (i * 3 + 2) % 3 = 2 := by omega
  unfold madeCells
  refine ⟨?_, ?_, ?_⟩
  · rw [Array.getElem?_map, Array.getElem?_range, if_pos (by omega)]; simp [h0]
  · rw [Array.getElem?_map, Array.getElem?_range, if_pos (by omega)]; simp [h1]
  · rw [Array.getElem?_map, Array.getElem?_range, if_pos (by omega)]; simp [h2]

set_option maxRecDepth 20000 in
set_option maxHeartbeats 8000000 in
theorem lay_zero (fs : List Fld) (p : Option Addr) (cap : Nat) (w : World) (hcap : fs.length ≤ cap) (hf : FP w w.heap.size p fs) :
    Calls Try.prog 22 #[.slice p fs.length cap] w fun r w' => ∃ a c, r = .returned (.slice a (elN fs) c) ∧ XP w' w'.heap.size a (List.replicate (elN fs) ⟨false, 0, 0⟩) ∧ Keep (fun _ => False) w w' := by
  obtain ⟨i0, hi0, hz0, hz1, hz2⟩ := info_parts' info_wi
  have HF := hid hf
  have HE := hid (elems_any fs p cap w hcap hf)
  have hle := elN_le fs
  clear hf
  generalize elN fs = n at *
  go_enter Try.func22, Try.ntmps22
  go_wp2_with fail
  refine HE.out.mono ?_
  rintro r w1 ⟨rfl, hk1⟩
  have HK1 := hid hk1
  clear hk1 HE
  by_cases h0 : n = 0
  · subst h0
    go_wp2
    go_ret
    exact ⟨none, 0, rfl, .inl rfl, HK1.out⟩
  · have hmk := run_make (P := Try.prog) w1 23 57 i0 _ Try.underlying23 hi0 hz0 .i64 .i64 (n : Int) (n : Int) (by omega) (by omega) (by rw [hz2]; omega) (by omega)
    rw [hz1, Int.toNat_natCast] at hmk
    have g1 : decide ((0 : Int) < (n : Int)) = true := decide_eq_true (by omega)
    have g2 : decide (0 < n) = true := decide_eq_true (by omega)
    have hb := heap_alloc_new w1 (.cells (madeCells (Value.agg #[.bool false, .int .u64 0, .int .u64 0]).cells (n * 3)) 57)
    have HB := hid hb
    have HK2 := hid (HK1.out.alloc (.cells (madeCells (Value.agg #[.bool false, .int .u64 0, .int .u64 0]).cells (n * 3)) 57))
    clear hb
    have HMC := hid (made_zero n)
    generalize madeCells (Value.agg #[.bool false, .int .u64 0, .int .u64 0]).cells (n * 3) = mc at *
    go_wp2
    go_ret
    refine ⟨_, _, rfl, ?_, HK2.out⟩
    refine .inr ⟨_, 0, rfl, lt_of_heap HB.out, fun i x hx => ?_⟩
    obtain ⟨hi, rfl⟩ : i < n ∧ x = ⟨false, 0, 0⟩ := by
      obtain ⟨h1, h2⟩ := List.getElem?_eq_some_iff.1 hx
      rw [List.length_replicate] at h1
      rw [List.getElem_replicate] at h2
      exact ⟨h1, h2.symm⟩
    obtain ⟨m0, m1, m2⟩ := HMC.out i hi
    rw [Nat.zero_add]
    exact ⟨cell_of HB.out m0, cell_of HB.out m1, cell_of HB.out m2⟩
end Go.Proofs.Ytkgkcnmnfhehfaa
