/- What is proved: what Start, Elems and Fit of the layout answer. -/
import Derived.Test.YtdekdefjfaoclaaDoorLay
import Derived.Test.YtdekdefjfaoclaaDoorWide2
import Derived.Test.YtdekdefjfaoclaaDoorSchFields
namespace Go.Proofs.YtdekdefjfaoclaaDoor
open Go.RowKit Go.Proofs.Heap Go.Proofs.Sch Go.Proofs.Wide

/-- How many elements the fields have. -/
def sumN : List Fld → Nat
  | [] => 0
  | f :: r => f.count.toNat + sumN r
theorem sumN_append (a b : List Fld) : sumN (a ++ b) = sumN a + sumN b := by
  induction a with
  | nil => simp [sumN]
  | cons x a ih => simp [sumN, ih]; omega
theorem layC_zero {fs : List Fld} (h : layC fs = 0) : fs.length ≤ 8 ∧ (∀ f ∈ fs, okF f) := by
  unfold layC at h
  by_cases h1 : 8 < fs.length
  · rw [if_pos h1] at h; omega
  · rw [if_neg h1] at h
    by_cases h2 : ∀ f ∈ fs, okF f
    · exact ⟨by omega, h2⟩
    · rw [if_neg h2] at h; omega
theorem sumN_next {fs : List Fld} {k : Nat} {f : Fld} (h : fs[k]? = some f) : sumN (fs.take (k + 1)) = sumN (fs.take k) + f.count.toNat := by
  rw [take_next h, sumN_append]; simp [sumN]
theorem sumN_le (fs : List Fld) (h : ∀ f ∈ fs, okF f) : sumN fs ≤ 8 * fs.length := by
  induction fs with
  | nil => simp [sumN]
  | cons f r ih =>
    have h1 := (h f (by simp)).2
    have h2 := ih (fun g hg => h g (by simp [hg]))
    simp only [sumN, List.length_cons]
    omega

end Go.Proofs.YtdekdefjfaoclaaDoor

namespace Go.Proofs.Sch
open Go.RowKit Go.Proofs.Heap Go.Proofs.Wide
def IntAt (w : World) (b o : Nat) (x : WI) : Prop := w.cell? ⟨b, o, none⟩ = some (.bool x.neg) ∧ w.cell? ⟨b, o + 1, none⟩ = some (.int .u64 (x.hi : Int)) ∧ w.cell? ⟨b, o + 2, none⟩ = some (.int .u64 (x.lo : Int))
abbrev XP := RowP 3 IntAt
theorem XP.low {w w' : World} {B : Nat} {p : Option Addr} {l : List WI} (h : XP w B p l) (hl : Low B w w') : XP w' B p l :=
  RowP.imp h (Nat.le_refl _) fun b o x hb hx => ⟨by rw [hl.cell hb]; exact hx.1, by rw [hl.cell hb]; exact hx.2.1, by rw [hl.cell hb]; exact hx.2.2⟩
theorem XP.mono {w : World} {B B' : Nat} {p : Option Addr} {l : List WI} (h : XP w B p l) (hB : B ≤ B') : XP w B' p l := RowP.imp h hB fun _ _ _ _ hx => hx
theorem XP.at {w : World} {B : Nat} {p : Option Addr} {l : List WI} (h : XP w B p l) {i : Nat} {f : WI} (hi : l[i]? = some f) : ∃ b off, p = some ⟨b, off, none⟩ ∧ b < B ∧ w.cell? ⟨b, off + i * 3, none⟩ = some (.bool f.neg) ∧ w.cell? ⟨b, off + i * 3 + 1, none⟩ = some (.int .u64 (f.hi : Int)) ∧ w.cell? ⟨b, off + i * 3 + 2, none⟩ = some (.int .u64 (f.lo : Int)) := by
  rcases h with rfl | ⟨b, off, hp, hb, hc⟩
  · simp at hi
  · obtain ⟨h1, h2, h3⟩ := hc i f hi
    exact ⟨b, off, hp, hb, h1, h2, h3⟩
/-- The rest of a row. -/
theorem XP.drop {w : World} {B b off : Nat} {l : List WI} (h : XP w B (some ⟨b, off, none⟩) l) (n : Nat) : XP w B (some ⟨b, off + n * 3, none⟩) (l.drop n) := by
  rcases h with rfl | ⟨b', off', hp, hb, hc⟩
  · exact .inl (by simp)
  · injection hp with hp
    injection hp with h1 h2
    subst h1; subst h2
    refine .inr ⟨_, _, rfl, hb, fun i x hx => ?_⟩
    rw [List.getElem?_drop] at hx
    have := hc (n + i) x hx
    rwa [show off + (n + i) * 3 = off + n * 3 + i * 3 by omega] at this
end Go.Proofs.Sch
namespace Go.Proofs.YtdekdefjfaoclaaDoor
open Go.RowKit Go.Proofs.Heap Go.Proofs.Sch Go.Proofs.Wide

/-- Whether all numbers fit their fields' kinds. -/
def fitRun : List Fld → List WI → Bool
  | [], _ => true
  | f :: r, vs => (vs.take f.count.toNat).all (fitsB f.kind) && fitRun r (vs.drop f.count.toNat)
/-- The error of a value. -/
def fitC (fs : List Fld) (vs : List WI) : Nat := if layC fs = 0 then (if vs.length = sumN fs then (if fitRun fs vs = true then 0 else 3) else 4) else layC fs

end Go.Proofs.YtdekdefjfaoclaaDoor
