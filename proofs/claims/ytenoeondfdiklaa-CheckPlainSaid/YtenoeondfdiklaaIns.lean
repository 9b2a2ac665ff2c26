/- What is proved: how formulas, rules lie in memory (definitions), and that what keeps their blocks keeps them; plain lemmas, no program. -/
import Derived.Test.YtenoeondfdiklaaSchMem
import Derived.Test.YtenoeondfdiklaaLay2
namespace Go.Proofs.Sch
open Go.RowKit Go.Proofs.Heap Go.Proofs.Wide

/-- An instruction of a formula. -/
structure Ins where
  op : Int
  a : Int
  b : Int
  k : WI
/-- A rule: the new component's id, the old one's, a formula for each field. -/
structure Rul where
  new : Int
  old : Int
  exprs : List (List Ins)

def InsAt (w : World) (b o : Nat) (x : Ins) : Prop := w.cell? ⟨b, o, none⟩ = some (.int .i64 x.op) ∧ w.cell? ⟨b, o + 1, none⟩ = some (.int .i64 x.a) ∧ w.cell? ⟨b, o + 2, none⟩ = some (.int .i64 x.b) ∧
  w.cell? ⟨b, o + 3, none⟩ = some (.bool x.k.neg) ∧ w.cell? ⟨b, o + 4, none⟩ = some (.int .u64 (x.k.hi : Int)) ∧ w.cell? ⟨b, o + 5, none⟩ = some (.int .u64 (x.k.lo : Int))
abbrev IP := RowP 6 InsAt
def ExAt (B : Nat) (w : World) (b o : Nat) (x : List Ins) : Prop := ∃ p k, w.cell? ⟨b, o, none⟩ = some (.slice p x.length k) ∧ x.length ≤ k ∧ IP w B p x
def EP (w : World) (B : Nat) (p : Option Addr) (l : List (List Ins)) : Prop := RowP 1 (ExAt B) w B p l
def RulAt (B : Nat) (w : World) (b o : Nat) (x : Rul) : Prop := w.cell? ⟨b, o, none⟩ = some (.int .i64 x.new) ∧ w.cell? ⟨b, o + 1, none⟩ = some (.int .i64 x.old) ∧
  ∃ p k, w.cell? ⟨b, o + 2, none⟩ = some (.slice p x.exprs.length k) ∧ x.exprs.length ≤ k ∧ EP w B p x.exprs
/-- A row of rules. -/
def UP (w : World) (B : Nat) (p : Option Addr) (l : List Rul) : Prop := RowP 3 (RulAt B) w B p l

section
variable {w w' : World} {B B' : Nat} {p : Option Addr}
theorem IP.low {l : List Ins} (h : IP w B p l) (hl : Low B w w') : IP w' B p l :=
  RowP.imp h (Nat.le_refl _) fun b o x hb hx => ⟨by rw [hl.cell hb]; exact hx.1, by rw [hl.cell hb]; exact hx.2.1, by rw [hl.cell hb]; exact hx.2.2.1, by rw [hl.cell hb]; exact hx.2.2.2.1, by rw [hl.cell hb]; exact hx.2.2.2.2.1, by rw [hl.cell hb]; exact hx.2.2.2.2.2⟩
theorem IP.mono {l : List Ins} (h : IP w B p l) (hB : B ≤ B') : IP w B' p l := RowP.imp h hB fun _ _ _ _ hx => hx
theorem IP.at {l : List Ins} (h : IP w B p l) {i : Nat} {x : Ins} (hi : l[i]? = some x) : ∃ b off, p = some ⟨b, off, none⟩ ∧ b < B ∧ w.cell? ⟨b, off + i * 6, none⟩ = some (.int .i64 x.op) ∧ w.cell? ⟨b, off + i * 6 + 1, none⟩ = some (.int .i64 x.a) ∧ w.cell? ⟨b, off + i * 6 + 2, none⟩ = some (.int .i64 x.b) ∧
    w.cell? ⟨b, off + i * 6 + 3, none⟩ = some (.bool x.k.neg) ∧ w.cell? ⟨b, off + i * 6 + 4, none⟩ = some (.int .u64 (x.k.hi : Int)) ∧ w.cell? ⟨b, off + i * 6 + 5, none⟩ = some (.int .u64 (x.k.lo : Int)) := by
  rcases h with rfl | ⟨b, off, hp, hb, hc⟩
  · simp at hi
  · exact ⟨b, off, hp, hb, hc i x hi⟩
theorem EP.low {l : List (List Ins)} (h : EP w B p l) (hl : Low B w w') : EP w' B p l :=
  RowP.imp h (Nat.le_refl _) fun b o x hb hx => by
    obtain ⟨q, k, h1, h2, h3⟩ := hx
    exact ⟨q, k, by rw [hl.cell hb]; exact h1, h2, IP.low h3 hl⟩
theorem EP.mono {l : List (List Ins)} (h : EP w B p l) (hB : B ≤ B') : EP w B' p l :=
  RowP.imp h hB fun b o x hb hx => by
    obtain ⟨q, k, h1, h2, h3⟩ := hx
    exact ⟨q, k, h1, h2, IP.mono h3 hB⟩
theorem EP.at {l : List (List Ins)} (h : EP w B p l) {i : Nat} {x : List Ins} (hi : l[i]? = some x) : ∃ b off q k, p = some ⟨b, off, none⟩ ∧ b < B ∧ w.cell? ⟨b, off + i, none⟩ = some (.slice q x.length k) ∧ x.length ≤ k ∧ IP w B q x := by
  rcases h with rfl | ⟨b, off, hp, hb, hc⟩
  · simp at hi
  · obtain ⟨q, k, h1, h2, h3⟩ := hc i x hi
    rw [Nat.mul_one] at h1
    exact ⟨b, off, q, k, hp, hb, h1, h2, h3⟩
theorem UP.low {l : List Rul} (h : UP w B p l) (hl : Low B w w') : UP w' B p l :=
  RowP.imp h (Nat.le_refl _) fun b o x hb hx => by
    obtain ⟨h0, h1, q, k, h2, h3, h4⟩ := hx
    exact ⟨by rw [hl.cell hb]; exact h0, by rw [hl.cell hb]; exact h1, q, k, by rw [hl.cell hb]; exact h2, h3, EP.low h4 hl⟩
theorem UP.mono {l : List Rul} (h : UP w B p l) (hB : B ≤ B') : UP w B' p l :=
  RowP.imp h hB fun b o x hb hx => by
    obtain ⟨h0, h1, q, k, h2, h3, h4⟩ := hx
    exact ⟨h0, h1, q, k, h2, h3, EP.mono h4 hB⟩
theorem UP.at {l : List Rul} (h : UP w B p l) {i : Nat} {x : Rul} (hi : l[i]? = some x) : ∃ b off q k, p = some ⟨b, off, none⟩ ∧ b < B ∧ w.cell? ⟨b, off + i * 3, none⟩ = some (.int .i64 x.new) ∧ w.cell? ⟨b, off + i * 3 + 1, none⟩ = some (.int .i64 x.old) ∧
    w.cell? ⟨b, off + i * 3 + 2, none⟩ = some (.slice q x.exprs.length k) ∧ x.exprs.length ≤ k ∧ EP w B q x.exprs := by
  rcases h with rfl | ⟨b, off, hp, hb, hc⟩
  · simp at hi
  · obtain ⟨h0, h1, q, k, h2, h3, h4⟩ := hc i x hi
    exact ⟨b, off, q, k, hp, hb, h0, h1, h2, h3, h4⟩
end
end Go.Proofs.Sch
