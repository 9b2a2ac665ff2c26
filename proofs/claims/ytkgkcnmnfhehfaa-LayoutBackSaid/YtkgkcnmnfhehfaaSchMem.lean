/- What is proved: how a row of fields, of components, lies in memory (definitions), and that what keeps its blocks keeps it; plain lemmas, no program. -/
import Derived.Test.YtkgkcnmnfhehfaaHeap
namespace Go.Proofs.Sch
open Go.RowKit Go.Proofs.Heap

/-- A field. -/
structure Fld where
  name : ByteArray
  kind : Int
  count : Int
/-- A component. -/
structure Cmp where
  id : Int
  name : ByteArray
  fs : List Fld

/-- A row of things, each of z cells, in a block below a bound. -/
def RowP {α : Type} (z : Nat) (at_ : World → Nat → Nat → α → Prop) (w : World) (B : Nat) (p : Option Addr) (l : List α) : Prop :=
  l = [] ∨ ∃ b off, p = some ⟨b, off, none⟩ ∧ b < B ∧ ∀ i x, l[i]? = some x → at_ w b (off + i * z) x

def FldAt (w : World) (b o : Nat) (f : Fld) : Prop := w.cell? ⟨b, o, none⟩ = some (.string f.name) ∧ w.cell? ⟨b, o + 1, none⟩ = some (.int .i64 f.kind) ∧ w.cell? ⟨b, o + 2, none⟩ = some (.int .i64 f.count)
abbrev FP := RowP 3 FldAt
def CmpAt (B : Nat) (w : World) (b o : Nat) (c : Cmp) : Prop := w.cell? ⟨b, o, none⟩ = some (.int .i64 c.id) ∧ w.cell? ⟨b, o + 1, none⟩ = some (.string c.name) ∧
  ∃ p k, w.cell? ⟨b, o + 2, none⟩ = some (.slice p c.fs.length k) ∧ c.fs.length ≤ k ∧ FP w B p c.fs
def CP (w : World) (B : Nat) (p : Option Addr) (l : List Cmp) : Prop := RowP 3 (CmpAt B) w B p l

section
variable {w w' : World} {B B' : Nat} {p : Option Addr}

theorem RowP.imp {α : Type} {z : Nat} {at1 at2 : World → Nat → Nat → α → Prop} {l : List α} (h : RowP z at1 w B p l) (hB : B ≤ B') (ha : ∀ b o x, b < B → at1 w b o x → at2 w' b o x) : RowP z at2 w' B' p l := by
  rcases h with h | ⟨b, off, hp, hb, hc⟩
  · exact .inl h
  · exact .inr ⟨b, off, hp, by omega, fun i x hi => ha b _ x hb (hc i x hi)⟩

/-- Blocks below a bound are unchanged. -/
def Low (B : Nat) (w w' : World) : Prop := ∀ b, b < B → w'.heap[b]? = w.heap[b]?
theorem Low.refl : Low B w w := fun _ _ => rfl
theorem Low.trans {w2 : World} (h : Low B w w') (h2 : Low B w' w2) : Low B w w2 := fun b hb => (h2 b hb).trans (h b hb)
theorem Low.of_keep {S : Nat → Prop} (hk : Keep S w w') (hB : B ≤ w.heap.size) (hS : ∀ k, S k → B ≤ k) : Low B w w' := fun b hb => hk.block b (by omega) (fun h => by have := hS b h; omega)
theorem Low.keep0 (hk : Keep (fun _ => False) w w') : Low w.heap.size w w' := Low.of_keep hk (Nat.le_refl _) (fun _ h => h.elim)
theorem Low.cell (h : Low B w w') {b o : Nat} (hb : b < B) : w'.cell? ⟨b, o, none⟩ = w.cell? ⟨b, o, none⟩ := World.cell?_of_block (a := ⟨b, o, none⟩) (h b hb)

theorem FP.low {l : List Fld} (h : FP w B p l) (hl : Low B w w') : FP w' B p l :=
  RowP.imp h (Nat.le_refl _) fun b o x hb hx => ⟨by rw [hl.cell hb]; exact hx.1, by rw [hl.cell hb]; exact hx.2.1, by rw [hl.cell hb]; exact hx.2.2⟩
theorem FP.mono {l : List Fld} (h : FP w B p l) (hB : B ≤ B') : FP w B' p l := RowP.imp h hB fun _ _ _ _ hx => hx
theorem CP.low {l : List Cmp} (h : CP w B p l) (hl : Low B w w') : CP w' B p l :=
  RowP.imp h (Nat.le_refl _) fun b o x hb hx => by
    obtain ⟨h1, h2, q, k, h3, h4, h5⟩ := hx
    exact ⟨by rw [hl.cell hb]; exact h1, by rw [hl.cell hb]; exact h2, q, k, by rw [hl.cell hb]; exact h3, h4, FP.low h5 hl⟩
theorem CP.mono {l : List Cmp} (h : CP w B p l) (hB : B ≤ B') : CP w B' p l :=
  RowP.imp h hB fun b o x hb hx => by
    obtain ⟨h1, h2, q, k, h3, h4, h5⟩ := hx
    exact ⟨h1, h2, q, k, h3, h4, FP.mono h5 hB⟩

/-- A field of a row. -/
theorem FP.at {l : List Fld} (h : FP w B p l) {i : Nat} {f : Fld} (hi : l[i]? = some f) : ∃ b off, p = some ⟨b, off, none⟩ ∧ b < B ∧ w.cell? ⟨b, off + i * 3, none⟩ = some (.string f.name) ∧ w.cell? ⟨b, off + i * 3 + 1, none⟩ = some (.int .i64 f.kind) ∧ w.cell? ⟨b, off + i * 3 + 2, none⟩ = some (.int .i64 f.count) := by
  rcases h with rfl | ⟨b, off, hp, hb, hc⟩
  · simp at hi
  · obtain ⟨h1, h2, h3⟩ := hc i f hi
    exact ⟨b, off, hp, hb, h1, h2, h3⟩
theorem CP.at {l : List Cmp} (h : CP w B p l) {i : Nat} {c : Cmp} (hi : l[i]? = some c) : ∃ b off q k, p = some ⟨b, off, none⟩ ∧ b < B ∧ w.cell? ⟨b, off + i * 3, none⟩ = some (.int .i64 c.id) ∧ w.cell? ⟨b, off + i * 3 + 1, none⟩ = some (.string c.name) ∧
    w.cell? ⟨b, off + i * 3 + 2, none⟩ = some (.slice q c.fs.length k) ∧ c.fs.length ≤ k ∧ FP w B q c.fs := by
  rcases h with rfl | ⟨b, off, hp, hb, hc⟩
  · simp at hi
  · obtain ⟨h1, h2, q, k, h3, h4, h5⟩ := hc i c hi
    exact ⟨b, off, q, k, hp, hb, h1, h2, h3, h4, h5⟩
end
end Go.Proofs.Sch
