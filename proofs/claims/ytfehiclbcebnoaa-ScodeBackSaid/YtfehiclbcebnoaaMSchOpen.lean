/- What is proved: what a law is handed as a schema, as components, as fields, is plain data in memory. -/
import Derived.Test.YtfehiclbcebnoaaMHeap
import Derived.Test.YtfehiclbcebnoaaProg
import Derived.Deep.Slices
import Derived.Deep.Strs
import Derived.ProofKit
import Derived.OpenShut
import Derived.ShutString
import Derived.ChangeOld
import Derived.Below
import Derived.Test.YtfehiclbcebnoaaMScPts4
namespace Go.Proofs.Ytfehiclbcebnoaa
open Go.ChangeShapes Go.WideShapes Go.ChangeAt Go.RowKit Go.Proofs.Heap Go.Proofs.Sch

section
variable {H : Type} {enc : TypeId × Value → H} {W : World}

theorem addr_add (b off i : Nat) : (⟨b, off, none⟩ : Addr).add i = ⟨b, off + i, none⟩ := by unfold Addr.add; split <;> simp_all

/-- A row of things that a law is handed. -/
theorem open_row {α : Type} {z : Nat} {t e : TypeId} (ht : Try.prog.underlying t = some (.slice e)) (hsz : Try.prog.cellsOf e = z) (at_ : World → Nat → Nat → α → Prop)
    (hel : ∀ (a : Addr) (n : Nat) (cs : List Value) (D : DataW H × List MemPlace), W.cells? 0 a z = some cs → DataW.trod enc Try.prog W 0 (fun _ => true) true n e cs = some D → a.spot = none ∧ a.block < W.heap.size ∧ ∃ x : α, at_ W a.block a.off x)
    {fuel : Nat} {cs : List Value} {x : DataW H × List MemPlace} (h : DataW.trod enc Try.prog W 0 (fun _ => true) true fuel t cs = some x) :
    ∃ (p : Option Addr) (c : Nat) (l : List α), cs = [.slice p l.length c] ∧ l.length ≤ c ∧ RowP z at_ W W.heap.size p l := by
  rcases Go.Deep.open_slice ht h with ⟨hcs, _⟩ | ⟨a, len, cap, m, n, D, Pl, hcs, _, hl, hm, hz', _, hcell⟩
  · exact ⟨none, 0, [], hcs, Nat.le_refl _, .inl rfl⟩
  · have hmc : m = cap := by simpa using hz'
    subst hmc
    rw [hsz] at hcell
    by_cases hl0 : len = 0
    · subst hl0
      exact ⟨some a, m, [], hcs, Nat.zero_le _, .inl rfl⟩
    · obtain ⟨b, off, spot⟩ := a
      have hblk : spot = none ∧ b < W.heap.size := by
        obtain ⟨cs', hc1, hc2⟩ := hcell 0 (by omega)
        obtain ⟨h1, h2, _⟩ := hel _ _ _ _ hc1 hc2
        refine ⟨?_, by simpa [Addr.add] using h2⟩
        simpa [Addr.add] using h1
      obtain ⟨rfl, hb⟩ := hblk
      have key : ∀ k, k ≤ len → ∃ l : List α, l.length = k ∧ ∀ i y, l[i]? = some y → at_ W b (off + i * z) y := by
        intro k
        induction k with
        | zero => exact fun _ => ⟨[], rfl, fun i y hy => by simp at hy⟩
        | succ k ih =>
          intro hk
          obtain ⟨l, hll, hla⟩ := ih (by omega)
          obtain ⟨cs', hc1, hc2⟩ := hcell k (by omega)
          obtain ⟨_, _, y, hy⟩ := hel _ _ _ _ hc1 hc2
          rw [addr_add] at hy
          refine ⟨l ++ [y], by simp [hll], fun i u hu => ?_⟩
          by_cases hik : i < k
          · rw [List.getElem?_append_left (by omega)] at hu
            exact hla i u hu
          · rw [List.getElem?_append_right (by omega)] at hu
            have : i = k := by
              have := (List.getElem?_eq_some_iff.1 hu).1
              simp at this
              omega
            subst this
            simp [hll] at hu
            subst hu
            exact hy
      obtain ⟨l, hll, hla⟩ := key len (Nat.le_refl _)
      subst hll
      exact ⟨_, m, l, hcs, hl, .inr ⟨b, off, rfl, hb, hla⟩⟩

theorem spot_of {a : Addr} {v : Value} (h : W.cell? (a.add 0) = some v) : a.spot = none ∧ a.block < W.heap.size := by
  obtain ⟨b, off, spot⟩ := a
  have h1 : spot = none := by simpa [Addr.add] using World.cell?_spot h
  subst h1
  rw [addr_add] at h
  exact ⟨rfl, World.block_lt_of_cell? W _ h⟩

set_option maxRecDepth 100000 in
theorem open_field (a : Addr) (n : Nat) (cs : List Value) (D : DataW H × List MemPlace) (hc : W.cells? 0 a 3 = some cs) (h : DataW.trod enc Try.prog W 0 (fun _ => true) true n 49 cs = some D) :
    a.spot = none ∧ a.block < W.heap.size ∧ ∃ x : Fld, FldAt W a.block a.off x := by
  have hs_int : Try.prog.cellsOf 3 = 1 := by kernel_rfl
  have hs_string : Try.prog.cellsOf 9 = 1 := by kernel_rfl
  have hs_kind : Try.prog.cellsOf 47 = 1 := by kernel_rfl
  obtain ⟨_, hlen, hat⟩ := World.cells?_some hc
  obtain ⟨y0, y1, y2, n', _, _, t0, t1, t2⟩ := Go.Deep.trod_struct3 Try.underlying49 h
  match cs, hlen with
  | [u0, u1, u2], _ =>
    have g0 := hat 0 (by omega)
    have g1 := hat 1 (by omega)
    have g2 := hat 2 (by omega)
    simp only [hs_int, hs_string, hs_kind, List.drop, List.take] at t0 t1 t2
    obtain ⟨K0, eK0, _, _⟩ := DataW.trod_string Try.underlying9 t0
    obtain ⟨K1, eK1, _, _⟩ := DataW.trod_int Try.underlying47 t1
    obtain ⟨K2, eK2, _, _⟩ := DataW.trod_int Try.underlying3 t2
    simp at eK0 eK1 eK2
    subst eK0; subst eK1; subst eK2
    obtain ⟨h1, h2⟩ := spot_of g0
    obtain ⟨b, off, spot⟩ := a
    simp only at h1 h2
    subst h1
    rw [addr_add] at g0 g1 g2
    exact ⟨rfl, h2, ⟨K0, K1, K2⟩, g0, g1, g2⟩

set_option maxRecDepth 100000 in
theorem open_fields {fuel : Nat} {cs : List Value} {x : DataW H × List MemPlace} (h : DataW.trod enc Try.prog W 0 (fun _ => true) true fuel 50 cs = some x) :
    ∃ (p : Option Addr) (c : Nat) (l : List Fld), cs = [.slice p l.length c] ∧ l.length ≤ c ∧ FP W W.heap.size p l :=
  open_row Try.underlying50 (by kernel_rfl) FldAt (fun a n cs D hc h => open_field a n cs D hc h) h

set_option maxRecDepth 100000 in
theorem open_comp (a : Addr) (n : Nat) (cs : List Value) (D : DataW H × List MemPlace) (hc : W.cells? 0 a 3 = some cs) (h : DataW.trod enc Try.prog W 0 (fun _ => true) true n 52 cs = some D) :
    a.spot = none ∧ a.block < W.heap.size ∧ ∃ x : Cmp, CmpAt W.heap.size W a.block a.off x := by
  have hs_int : Try.prog.cellsOf 3 = 1 := by kernel_rfl
  have hs_string : Try.prog.cellsOf 9 = 1 := by kernel_rfl
  have hs_fields : Try.prog.cellsOf 50 = 1 := by kernel_rfl
  obtain ⟨_, hlen, hat⟩ := World.cells?_some hc
  obtain ⟨y0, y1, y2, n', _, _, t0, t1, t2⟩ := Go.Deep.trod_struct3 Try.underlying52 h
  match cs, hlen with
  | [u0, u1, u2], _ =>
    have g0 := hat 0 (by omega)
    have g1 := hat 1 (by omega)
    have g2 := hat 2 (by omega)
    simp only [hs_int, hs_string, hs_fields, List.drop, List.take] at t0 t1 t2
    obtain ⟨K0, eK0, _, _⟩ := DataW.trod_int Try.underlying3 t0
    obtain ⟨K1, eK1, _, _⟩ := DataW.trod_string Try.underlying9 t1
    obtain ⟨p, c, l, eK2, hlc, hfp⟩ := open_fields t2
    simp at eK0 eK1 eK2
    subst eK0; subst eK1; subst eK2
    obtain ⟨h1, h2⟩ := spot_of g0
    obtain ⟨b, off, spot⟩ := a
    simp only at h1 h2
    subst h1
    rw [addr_add] at g0 g1 g2
    exact ⟨rfl, h2, ⟨K0, K1, l⟩, g0, g1, p, c, g2, hlc, hfp⟩

set_option maxRecDepth 100000 in
theorem open_comps {fuel : Nat} {cs : List Value} {x : DataW H × List MemPlace} (h : DataW.trod enc Try.prog W 0 (fun _ => true) true fuel 22 cs = some x) :
    ∃ (p : Option Addr) (c : Nat) (l : List Cmp), cs = [.slice p l.length c] ∧ l.length ≤ c ∧ CP W W.heap.size p l :=
  open_row Try.underlying22 (by kernel_rfl) (CmpAt W.heap.size) (fun a n cs D hc h => open_comp a n cs D hc h) h

set_option maxRecDepth 100000 in
/-- A schema that a law is handed. -/
theorem open_schema {v : Value} {r : Reach} {b : Nat} (hv : Value.okWide Try.prog W r b 24 v) {fuel : Nat} {x : DataW H × List MemPlace} (h : DataW.trod enc Try.prog W 0 (fun _ => true) true fuel 24 v.cells.toList = some x) :
    ∃ (k : Int) (p : Option Addr) (c : Nat) (l : List Cmp), v = .agg #[.int .i64 k, .slice p l.length c] ∧ l.length ≤ c ∧ CP W W.heap.size p l := by
  have hs_int : Try.prog.cellsOf 3 = 1 := by kernel_rfl
  have hs_comps : Try.prog.cellsOf 22 = 1 := by kernel_rfl
  have hs : Try.prog.cellsOf 24 = 2 := by kernel_rfl
  unfold Value.okWide at hv
  rw [Try.underlying24] at hv
  obtain ⟨cs, rfl, hsz, _⟩ := hv
  rw [hs] at hsz
  obtain ⟨⟨u0, u1, rfl⟩⟩ : Nonempty (∃ u0 u1, cs = #[u0, u1]) := by
    obtain ⟨l⟩ := cs
    match l, hsz with
    | [u0, u1], _ => exact ⟨u0, u1, rfl⟩
  obtain ⟨y0, y1, n', _, _, t0, t1⟩ := trod_struct2 Try.underlying24 h
  simp only [Value.cells, hs_int, hs_comps, List.drop, List.take] at t0 t1
  obtain ⟨K0, eK0, _, _⟩ := DataW.trod_int Try.underlying3 t0
  obtain ⟨p, c, l, eK1, hlc, hcp⟩ := open_comps t1
  simp at eK0 eK1
  subst eK0; subst eK1
  exact ⟨K0, p, c, l, rfl, hlc, hcp⟩
end
end Go.Proofs.Ytfehiclbcebnoaa

namespace Go.Proofs.Ytfehiclbcebnoaa
open Go.RowKit Go.Proofs.Heap Go.Proofs.Sch

/-- A byte that a law is handed. -/
theorem wf_u8C {K : Int} (h : (Lit.int .u8 K).wf = true) : ∃ m : UInt8, K = (m.toNat : Int) := by
  have h : IntKind.u8.min ≤ K ∧ K ≤ IntKind.u8.max := by simpa [Lit.wf] using h
  have h1 : IntKind.u8.min = 0 := by decide
  have h2 : IntKind.u8.max = 255 := by decide
  refine ⟨UInt8.ofNat K.toNat, ?_⟩
  rw [UInt8.toNat_ofNat']
  omega
theorem back_true (v : Int) (pa : Option Addr) (ca : Nat) (cs : List Cmp) (u : Int) (pb : Option Addr) (cb : Nat) (ds : List Cmp) (bytes : ByteArray) (m : UInt8) (w : World) (hA : CP w w.heap.size pa cs) (hB : CP w w.heap.size pb ds) (hbs : bytes.size ≤ maxLen) :
    Calls Try.prog 5 #[.agg #[.int .i64 v, .slice pa cs.length ca], .agg #[.int .i64 u, .slice pb ds.length cb], .string bytes, .int .u8 (m.toNat : Int)] w fun e w' => e = .returned (.bool true) ∧ Below w.heap.size w w' :=
  (sc_back v u cs ds pa ca pb cb bytes m w hA hB (by unfold maxLen at hbs; omega)).mono fun _ _ h => ⟨h.1, h.2.below⟩
end Go.Proofs.Ytfehiclbcebnoaa
