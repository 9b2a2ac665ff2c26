/- What is proved: what Find, Named, FieldNamed answer at a schema that can be. -/
import Derived.Test.YtdekdefjfaoclaaDoorSchLaw
import Derived.Test.YtdekdefjfaoclaaDoorSchFind2
import Derived.Test.YtdekdefjfaoclaaDoorSchMore
import Derived.Test.YtdekdefjfaoclaaDoorSchRow
namespace Go.Proofs.YtdekdefjfaoclaaDoor
open Go.RowKit Go.Proofs.Heap Go.Proofs.Sch

theorem idx_any {α : Type} (q : α → Bool) (l : List α) : (∃ k : Nat, idxI q l = (k : Int)) → l.any q = true := by
  rintro ⟨k, hk⟩
  rcases idx_cases q l with h | ⟨i, x, _, hx, hq, _⟩
  · omega
  · exact List.any_eq_true.2 ⟨x, List.mem_of_getElem? hx, hq⟩
theorem idx_any_no {α : Type} (q : α → Bool) (l : List α) (h : idxI q l = -1) : l.any q = false := by
  rw [List.any_eq_false]
  intro x hx hq
  unfold idxI at h
  cases e : l.findIdx? q with
  | none => exact absurd hq (by simpa using (List.findIdx?_eq_none_iff.1 e) x hx)
  | some k => rw [e] at h; simp only at h; omega

theorem find_any (id : Int) (v : Int) (cs : List Cmp) (p : Option Addr) (cap : Nat) (w : World) (hl : Small cs) (hf : CP w w.heap.size p cs) :
    Calls Tryd.prog 21 #[.agg #[.int .i64 v, .slice p cs.length cap], .int .i64 id] w fun r w' => ∃ (a : Int) (b : ByteArray) (q : Option Addr) (n z : Nat), r = .returned (.tuple #[.agg #[.int .i64 a, .string b, .slice q n z], .bool (cs.any (fun c => decide (c.id = id)))]) ∧ Keep (fun _ => False) w w' := by
  refine (sch_find id v cs p cap w hl hf).mono ?_
  rintro r w' ⟨h | h, hk⟩
  · obtain ⟨k, c, q, z, hi, _, _, rfl, _, _⟩ := h
    exact ⟨c.id, c.name, q, _, z, by rw [idx_any _ _ ⟨k, hi⟩], hk⟩
  · obtain ⟨hi, rfl⟩ := h
    exact ⟨_, _, _, _, _, by rw [idx_any_no _ _ hi], hk⟩

/-- What is found where it must be found. -/
theorem found_at {B : Nat} {w' : World} {q : Cmp → Bool} {cs : List Cmp} {r : Ending} {k : Nat} {c : Cmp} (h : Found B w' q cs r) (hi : idxI q cs = (k : Int)) (hk : cs[k]? = some c) :
    ∃ (p : Option Addr) (z : Nat), r = .returned (.tuple #[.agg #[.int .i64 c.id, .string c.name, .slice p c.fs.length z], .bool true]) ∧ c.fs.length ≤ z ∧ FP w' w'.heap.size p c.fs := by
  rcases h with ⟨k', c', p, z, h1, h2, _, rfl, h4, h5⟩ | ⟨h1, _⟩
  · have : k = k' := by omega
    subst this
    rw [hk] at h2
    injection h2 with h2
    subst h2
    exact ⟨p, z, rfl, h4, fp_own rfl h5⟩
  · omega

theorem find_at {v : Int} {cs : List Cmp} (hg : GoodS v cs) {k : Nat} {i : Int} {nm : ByteArray} {fs : List Fld} (hk : cs[k]? = some ⟨i, nm, fs⟩) (u : Int) (p : Option Addr) (cap : Nat) (w : World) (hl : Small cs) (hf : CP w w.heap.size p cs) :
    Calls Tryd.prog 21 #[.agg #[.int .i64 u, .slice p cs.length cap], .int .i64 i] w fun r w' => ∃ (q : Option Addr) (z : Nat), r = .returned (.tuple #[.agg #[.int .i64 i, .string nm, .slice q fs.length z], .bool true]) ∧ FP w' w'.heap.size q fs ∧ Keep (fun _ => False) w w' := by
  refine (sch_find i u cs p cap w hl hf).mono ?_
  rintro r w' ⟨h, hk'⟩
  obtain ⟨q, z, hr, _, h5⟩ := found_at h (hg.id_idx hk) hk
  exact ⟨q, z, hr, h5, hk'⟩
theorem field_at {v : Int} {cs : List Cmp} (hg : GoodS v cs) {i : Int} {nm : ByteArray} {fs : List Fld} (hc : (⟨i, nm, fs⟩ : Cmp) ∈ cs) {j : Nat} {fn : ByteArray} {a b : Int} (hj : fs[j]? = some ⟨fn, a, b⟩) (p : Option Addr) (cap : Nat) (w : World) (hl : fs.length ≤ 4398046511104) (hf : FP w w.heap.size p fs) :
    Calls Tryd.prog 45 #[.agg #[.int .i64 i, .string nm, .slice p fs.length cap], .string fn] w fun r w' => r = .returned (.tuple #[.int .i64 (j : Int), .bool true]) ∧ Keep (fun _ => False) w w' := by
  refine (field_named ⟨i, nm, fs⟩ fn p cap w hl hf).mono ?_
  rintro r w' ⟨h, hk'⟩
  refine ⟨?_, hk'⟩
  have hi := hg.field_idx hc hj
  simp only at hi
  rcases h with ⟨h1, _⟩ | ⟨k, h1, _, rfl⟩
  · simp only at h1; omega
  · simp only at h1
    have : k = j := by omega
    subst this
    rfl
end Go.Proofs.YtdekdefjfaoclaaDoor
