/- What is proved: what the schema's functions answer at the law's schema of two components. -/
import Derived.Test.YthpafpgillnimaaSchTwo
namespace Go.Proofs.Ythpafpgillnimaa
open Go.RowKit Go.Proofs.Heap Go.Proofs.Sch Go.Proofs.Wide

section
variable {w : World} {p : Option Addr} {c : Nat}

theorem tw_find (h : CP w w.heap.size p TWO) : Calls Try.prog 14 #[.agg #[.int .i64 1, .slice p 2 c], .int .i64 3] w fun r w' => ∃ q z, r = .returned (.tuple #[.agg #[.int .i64 3, .string nTag, .slice q 0 z], .bool true]) ∧ Keep (fun _ => False) w w' := by
  refine (sch_find 3 1 TWO p c w two_small h).mono ?_
  rintro r w' ⟨hr, hk⟩
  rcases hr with ⟨k, d, q, z, hz, hd, _, rfl, _, _⟩ | ⟨hz, _⟩
  · have e := hz.symm.trans two_find
    have hk1 : k = 1 := by omega
    subst hk1
    injection hd with hd
    subst hd
    exact ⟨q, z, rfl, hk⟩
  · have e := hz.symm.trans two_find
    omega
theorem tw_named (h : CP w w.heap.size p TWO) : Calls Try.prog 16 #[.agg #[.int .i64 1, .slice p 2 c], .string ⟨#[118, 101, 108]⟩] w fun r w' => r = .returned (.tuple #[.agg #[.int .i64 0, .string ⟨#[]⟩, .slice none 0 0], .bool false]) ∧ Keep (fun _ => False) w w' := by
  refine (sch_named ⟨#[118, 101, 108]⟩ 1 TWO p c w two_small h).mono ?_
  rintro r w' ⟨hr, hk⟩
  rcases hr with ⟨k, d, q, z, hz, hd, _, rfl, _, _⟩ | ⟨hz, rfl⟩
  · have e := hz.symm.trans two_named
    omega
  · exact ⟨rfl, hk⟩
theorem tw_field {q : Option Addr} {z : Nat} (h : FP w w.heap.size q [⟨nX, 3, 1⟩, ⟨nY, 3, 1⟩]) : Calls Try.prog 17 #[.agg #[.int .i64 1, .string nPos, .slice q 2 z], .string nY] w fun r w' => r = .returned (.tuple #[.int .i64 1, .bool true]) ∧ Keep (fun _ => False) w w' := by
  refine (field_named ⟨1, nPos, [⟨nX, 3, 1⟩, ⟨nY, 3, 1⟩]⟩ nY q z w (by simp) h).mono ?_
  rintro r w' ⟨hr, hk⟩
  rcases hr with ⟨hz, _⟩ | ⟨k, hz, _, rfl⟩
  · have e := hz.symm.trans two_field
    omega
  · have e := hz.symm.trans two_field
    have hk1 : k = 1 := by omega
    subst hk1
    exact ⟨rfl, hk⟩
theorem tw_ids (h : CP w w.heap.size p TWO) : Calls Try.prog 18 #[.agg #[.int .i64 1, .slice p 2 c]] w fun r w' => ∃ g z, r = .returned (.slice (some ⟨g, 0, none⟩) 2 z) ∧ w'.cell? ⟨g, 1, none⟩ = some (.int .i64 3) ∧ Keep (fun _ => False) w w' := by
  refine (sch_ids 1 TWO p c w (by decide) h).mono ?_
  rintro r w' ⟨q, z, rfl, ho, hk⟩
  obtain ⟨g, rfl⟩ := owns_some ho (by decide)
  have hc := owns_cell ho (k := 1) (by decide)
  exact ⟨g, z, rfl, hc.trans rfl, hk⟩
theorem tw_check (h : CP w w.heap.size p TWO) : Calls Try.prog 9 #[.agg #[.int .i64 1, .slice p 2 c]] w fun r w' => r = .returned (.int .i64 0) ∧ Keep (fun _ => False) w w' := by
  refine (sch_check 1 TWO p c w two_small h).mono ?_
  rintro r w' ⟨rfl, hk⟩
  rw [two_check]
  exact ⟨rfl, hk⟩
theorem tw_part (h : CP w w.heap.size p TWO) : Calls Try.prog 19 #[.agg #[.int .i64 1, .slice p 2 c], .agg #[.int .i64 2, .slice none 0 0]] w fun r w' => r = .returned (.int .i64 6) ∧ Keep (fun _ => False) w w' := by
  refine (check_part 1 TWO p c ⟨2, []⟩ none 0 w two_small (by simp) (by simp) (by simp) h (.inl rfl)).mono ?_
  rintro r w' ⟨rfl, hk⟩
  rw [two_part]
  exact ⟨rfl, hk⟩
theorem tw_part2 {q : Option Addr} {z : Nat} (h : CP w w.heap.size p TWO) (hz : 2 ≤ z) (hx : XP w w.heap.size q [⟨false, 0, 1⟩, ⟨false, 0, 32768⟩]) : Calls Try.prog 19 #[.agg #[.int .i64 1, .slice p 2 c], .agg #[.int .i64 1, .slice q 2 z]] w fun r w' => r = .returned (.int .i64 3) ∧ Keep (fun _ => False) w w' := by
  refine (check_part 1 TWO p c ⟨1, [⟨false, 0, 1⟩, ⟨false, 0, 32768⟩]⟩ q z w two_small (by simp) hz ?_ h hx).mono ?_
  · intro y hy
    simp at hy
    rcases hy with rfl | rfl
    · exact ⟨(by decide : (0 : Nat) < 18446744073709551616), (by decide : (1 : Nat) < 18446744073709551616)⟩
    · exact ⟨(by decide : (0 : Nat) < 18446744073709551616), (by decide : (32768 : Nat) < 18446744073709551616)⟩
  · rintro r w' ⟨rfl, hk⟩
    rw [two_part2]
    exact ⟨rfl, hk⟩
theorem tw_parts {q : Option Addr} {z : Nat} (h : CP w w.heap.size p TWO) (hz : 2 ≤ z) (hx : PP w w.heap.size q [⟨3, []⟩, ⟨3, []⟩]) : Calls Try.prog 25 #[.agg #[.int .i64 1, .slice p 2 c], .slice q 2 z] w fun r w' => r = .returned (.int .i64 1) ∧ Keep (fun _ => False) w w' := by
  refine (check_parts 1 TWO p c [⟨3, []⟩, ⟨3, []⟩] q z w two_small (by simp) hz ?_ h hx).mono ?_
  · intro y hy
    simp at hy
    subst hy
    exact ⟨by simp, fun x hx => by simp at hx⟩
  · rintro r w' ⟨rfl, hk⟩
    rw [two_parts]
    exact ⟨rfl, hk⟩
theorem tw_clone (h : CP w w.heap.size p TWO) : Calls Try.prog 24 #[.agg #[.int .i64 1, .slice p 2 c]] w fun r w' => ∃ q z, r = .returned (.agg #[.int .i64 1, .slice q 2 z]) ∧ CP w' w'.heap.size q TWO ∧ Keep (fun _ => False) w w' := by
  refine (sch_clone 1 TWO p c w two_small h).mono ?_
  rintro r w' ⟨q, z, vs, rfl, _, hv, ho, hk⟩
  exact ⟨q, z, rfl, hv ▸ ho.cp, hk⟩
theorem tw_same {q : Option Addr} {z : Nat} (h : CP w w.heap.size p TWO) (h2 : CP w w.heap.size q TWO) : Calls Try.prog 22 #[.agg #[.int .i64 1, .slice p 2 c], .agg #[.int .i64 1, .slice q 2 z]] w fun r w' => r = .returned (.bool true) ∧ Keep (fun _ => False) w w' := by
  refine (sch_same 1 1 TWO TWO p q c z w two_small h h2).mono ?_
  rintro r w' ⟨rfl, hk⟩
  exact ⟨by simp, hk⟩
end
end Go.Proofs.Ythpafpgillnimaa
