/- What is proved: what Find of a schema answers, as a function of the id. -/
import Derived.Test.YtdekdefjfaoclaaDoorSchAt
namespace Go.Proofs.YtdekdefjfaoclaaDoor
open Go.RowKit Go.Proofs.Heap Go.Proofs.Sch

def nilC : Cmp := ⟨0, ⟨#[]⟩, []⟩
/-- The component of an id, or none. -/
def foundC (cs : List Cmp) (id : Int) : Cmp := if idxI (fun c : Cmp => decide (c.id = id)) cs < 0 then nilC else (cs[(idxI (fun c : Cmp => decide (c.id = id)) cs).toNat]?).getD nilC
theorem foundC_small {cs : List Cmp} (h : Small cs) (id : Int) : (foundC cs id).fs.length ≤ 4398046511104 := by
  unfold foundC
  split
  · simp [nilC]
  · cases e : cs[(idxI (fun c : Cmp => decide (c.id = id)) cs).toNat]? with
    | none => simp [nilC]
    | some c => exact h.2 c (List.mem_of_getElem? e)
theorem find_co (id : Int) (v : Int) (cs : List Cmp) (p : Option Addr) (cap : Nat) (w : World) (hl : Small cs) (hf : CP w w.heap.size p cs) :
    Calls Tryd.prog 21 #[.agg #[.int .i64 v, .slice p cs.length cap], .int .i64 id] w fun r w' => ∃ (q : Option Addr) (z : Nat), r = .returned (.tuple #[.agg #[.int .i64 (foundC cs id).id, .string (foundC cs id).name, .slice q (foundC cs id).fs.length z], .bool (cs.any (fun c => decide (c.id = id)))]) ∧
      w'.ownsRow w.heap.size 53 3 (.slice q (foundC cs id).fs.length z) (foundC cs id).fs.length ((foundC cs id).fs.flatMap fcl) ∧ Keep (fun _ => False) w w' := by
  refine (sch_find id v cs p cap w hl hf).mono ?_
  rintro r w' ⟨h | h, hk⟩
  · obtain ⟨k, c, q, z, hi, hc, _, rfl, _, h5⟩ := h
    have e : foundC cs id = c := by
      unfold foundC
      rw [hi, if_neg (by omega), Int.toNat_natCast, hc]; rfl
    rw [e]
    exact ⟨q, z, by rw [idx_any _ _ ⟨k, hi⟩], h5, hk⟩
  · obtain ⟨hi, rfl⟩ := h
    have e : foundC cs id = nilC := by
      unfold foundC
      rw [hi]; rfl
    rw [e]
    exact ⟨none, 0, by rw [idx_any_no _ _ hi]; rfl, World.ownsRow_nil _ _ _ _, hk⟩
theorem find_c (id : Int) (v : Int) (cs : List Cmp) (p : Option Addr) (cap : Nat) (w : World) (hl : Small cs) (hf : CP w w.heap.size p cs) :
    Calls Tryd.prog 21 #[.agg #[.int .i64 v, .slice p cs.length cap], .int .i64 id] w fun r w' => ∃ (q : Option Addr) (z : Nat), r = .returned (.tuple #[.agg #[.int .i64 (foundC cs id).id, .string (foundC cs id).name, .slice q (foundC cs id).fs.length z], .bool (cs.any (fun c => decide (c.id = id)))]) ∧ FP w' w'.heap.size q (foundC cs id).fs ∧ Keep (fun _ => False) w w' :=
  (find_co id v cs p cap w hl hf).mono fun _ _ ⟨q, z, h1, h2, h3⟩ => ⟨q, z, h1, fp_own rfl h2, h3⟩
end Go.Proofs.YtdekdefjfaoclaaDoor
