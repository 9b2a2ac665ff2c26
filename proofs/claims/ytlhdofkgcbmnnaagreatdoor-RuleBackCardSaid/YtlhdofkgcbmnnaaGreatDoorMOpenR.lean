/- What is proved: what a law is handed as a component, as a rule, as formulas, is plain data in memory. -/
import Derived.Test.YtlhdofkgcbmnnaaGreatDoorMRuAwake
import Derived.Test.YtlhdofkgcbmnnaaGreatDoorMWide2
import Derived.Lib.SmallJoins
import Derived.Test.YtlhdofkgcbmnnaaGreatDoorProg
import Derived.WalkKit
namespace Go.Proofs.YtlhdofkgcbmnnaaGreatDoor
open Go.ChangeShapes Go.WideShapes Go.ChangeAt Go.RowKit Go.Proofs.Heap Go.Proofs.Sch Go.Proofs.Wide

section
variable {H : Type} {enc : TypeId × Value → H} {W : World}

def InsFit (w : World) (b o : Nat) (x : Ins) : Prop := InsAt w b o x ∧ x.k.fit

set_option maxRecDepth 100000 in
theorem open_ins (a : Addr) (n : Nat) (cs : List Value) (D : DataW H × List MemPlace) (hc : W.cells? 0 a 6 = some cs) (h : DataW.trod enc Tryz.prog W 0 (fun _ => true) true n 66 cs = some D) :
    a.spot = none ∧ a.block < W.heap.size ∧ ∃ x : Ins, InsFit W a.block a.off x := by
  have hs_bool : Tryz.prog.cellsOf 4 = 1 := by kernel_rfl
  have hs_u64 : Tryz.prog.cellsOf 62 = 1 := by kernel_rfl
  have hs_int : Tryz.prog.cellsOf 3 = 1 := by kernel_rfl
  have hs_k : Tryz.prog.cellsOf 64 = 3 := by kernel_rfl
  obtain ⟨_, hlen, hat⟩ := World.cells?_some hc
  obtain ⟨y0, y1, y2, y3, n', _, _, t0, t1, t2, t3⟩ := Go.Joins.trod_struct4 Tryz.underlying66 h
  match cs, hlen with
  | [u0, u1, u2, u3, u4, u5], _ =>
    have g0 := hat 0 (by omega)
    have g1 := hat 1 (by omega)
    have g2 := hat 2 (by omega)
    have g3 := hat 3 (by omega)
    have g4 := hat 4 (by omega)
    have g5 := hat 5 (by omega)
    simp only [hs_int, hs_k, List.drop, List.take] at t0 t1 t2 t3
    obtain ⟨K0, eK0, _, _⟩ := DataW.trod_int Tryz.underlying3 t0
    obtain ⟨K1, eK1, _, _⟩ := DataW.trod_int Tryz.underlying3 t1
    obtain ⟨K2, eK2, _, _⟩ := DataW.trod_int Tryz.underlying3 t2
    obtain ⟨z0, z1, z2, n2, _, _, r0, r1, r2⟩ := Go.Deep.trod_struct3 Tryz.underlying64 t3
    simp only [hs_bool, hs_u64, List.drop, List.take] at r0 r1 r2
    obtain ⟨K3, eK3, _⟩ := DataW.trod_bool Tryz.underlying4 r0
    obtain ⟨K4, eK4, _, w1⟩ := DataW.trod_int Tryz.underlying62 r1
    obtain ⟨K5, eK5, _, w2⟩ := DataW.trod_int Tryz.underlying62 r2
    simp at eK0 eK1 eK2 eK3 eK4 eK5
    subst eK0; subst eK1; subst eK2; subst eK3; subst eK4; subst eK5
    have b1 := u64_wf w1
    have b2 := u64_wf w2
    obtain ⟨N1, rfl⟩ := Int.eq_ofNat_of_zero_le b1.1
    obtain ⟨N2, rfl⟩ := Int.eq_ofNat_of_zero_le b2.1
    obtain ⟨h1, h2⟩ := spot_of g0
    obtain ⟨b, off, spot⟩ := a
    simp only at h1 h2
    subst h1
    rw [addr_add] at g0 g1 g2 g3 g4 g5
    exact ⟨rfl, h2, ⟨K0, K1, K2, ⟨K3, N1, N2⟩⟩, ⟨g0, g1, g2, g3, g4, g5⟩, by unfold WI.fit; simp only; omega⟩

theorem open_code {fuel : Nat} {cs : List Value} {x : DataW H × List MemPlace} (h : DataW.trod enc Tryz.prog W 0 (fun _ => true) true fuel 68 cs = some x) :
    ∃ (p : Option Addr) (c : Nat) (l : List Ins), cs = [.slice p l.length c] ∧ l.length ≤ c ∧ IP W W.heap.size p l ∧ ∀ y ∈ l, y.k.fit := by
  obtain ⟨p, c, l, h1, h2, h3⟩ := open_row Tryz.underlying68 (by kernel_rfl) InsFit (fun a n cs D hc h => open_ins a n cs D hc h) h
  refine ⟨p, c, l, h1, h2, RowP.imp h3 (Nat.le_refl _) (fun _ _ _ _ h => h.1), fun y hy => ?_⟩
  rcases h3 with rfl | ⟨b, off, _, _, hc⟩
  · cases hy
  · obtain ⟨i, hi⟩ := List.getElem?_of_mem hy
    exact (hc i y hi).2

def ExFit (B : Nat) (w : World) (b o : Nat) (x : List Ins) : Prop := ExAt B w b o x ∧ ∀ y ∈ x, y.k.fit

set_option maxRecDepth 100000 in
theorem open_ex (a : Addr) (n : Nat) (cs : List Value) (D : DataW H × List MemPlace) (hc : W.cells? 0 a 1 = some cs) (h : DataW.trod enc Tryz.prog W 0 (fun _ => true) true n 68 cs = some D) :
    a.spot = none ∧ a.block < W.heap.size ∧ ∃ x : List Ins, ExFit W.heap.size W a.block a.off x := by
  obtain ⟨_, hlen, hat⟩ := World.cells?_some hc
  obtain ⟨p, c, l, e1, hlc, hip, hif⟩ := open_code h
  subst e1
  have g0 := hat 0 (by simp)
  obtain ⟨h1, h2⟩ := spot_of g0
  obtain ⟨b, off, spot⟩ := a
  simp only at h1 h2
  subst h1
  rw [addr_add] at g0
  exact ⟨rfl, h2, l, ⟨p, c, g0, hlc, hip⟩, hif⟩
theorem open_exprs {fuel : Nat} {cs : List Value} {x : DataW H × List MemPlace} (h : DataW.trod enc Tryz.prog W 0 (fun _ => true) true fuel 44 cs = some x) :
    ∃ (p : Option Addr) (c : Nat) (l : List (List Ins)), cs = [.slice p l.length c] ∧ l.length ≤ c ∧ EP W W.heap.size p l ∧ ∀ y ∈ l, ∀ u ∈ y, u.k.fit := by
  obtain ⟨p, c, l, h1, h2, h3⟩ := open_row Tryz.underlying44 (by kernel_rfl) (ExFit W.heap.size) (fun a n cs D hc h => open_ex a n cs D hc h) h
  refine ⟨p, c, l, h1, h2, RowP.imp h3 (Nat.le_refl _) (fun _ _ _ _ h => h.1), fun y hy => ?_⟩
  rcases h3 with rfl | ⟨b, off, _, _, hc⟩
  · cases hy
  · obtain ⟨i, hi⟩ := List.getElem?_of_mem hy
    exact (hc i y hi).2

set_option maxRecDepth 100000 in
/-- A rule that a law is handed. -/
theorem open_rule_of {v : Value} {r : Reach} {b : Nat} (hv : Value.okWide Tryz.prog W r b 46 v) {fuel : Nat} {x : DataW H × List MemPlace} (h : DataW.trod enc Tryz.prog W 0 (fun _ => true) true fuel 46 v.cells.toList = some x) :
    ∃ (c : Rul) (p : Option Addr) (z : Nat), v = .agg #[.int .i64 c.new, .int .i64 c.old, .slice p c.exprs.length z] ∧ c.exprs.length ≤ z ∧ EP W W.heap.size p c.exprs ∧ ∀ y ∈ c.exprs, ∀ u ∈ y, u.k.fit := by
  have hs_int : Tryz.prog.cellsOf 3 = 1 := by kernel_rfl
  have hs_ex : Tryz.prog.cellsOf 44 = 1 := by kernel_rfl
  have hs : Tryz.prog.cellsOf 46 = 3 := by kernel_rfl
  unfold Value.okWide at hv
  rw [Tryz.underlying46] at hv
  obtain ⟨cs, rfl, hsz, _⟩ := hv
  rw [hs] at hsz
  obtain ⟨⟨u0, u1, u2, rfl⟩⟩ : Nonempty (∃ u0 u1 u2, cs = #[u0, u1, u2]) := by
    obtain ⟨l⟩ := cs
    match l, hsz with
    | [u0, u1, u2], _ => exact ⟨u0, u1, u2, rfl⟩
  obtain ⟨y0, y1, y2, n', _, _, t0, t1, t2⟩ := Go.Deep.trod_struct3 Tryz.underlying46 h
  simp only [Value.cells, hs_int, hs_ex, List.drop, List.take] at t0 t1 t2
  obtain ⟨K0, eK0, _, _⟩ := DataW.trod_int Tryz.underlying3 t0
  obtain ⟨K1, eK1, _, _⟩ := DataW.trod_int Tryz.underlying3 t1
  obtain ⟨p, c, l, eK2, hlc, hfp, hft⟩ := open_exprs t2
  simp at eK0 eK1 eK2
  subst eK0; subst eK1; subst eK2
  exact ⟨⟨K0, K1, l⟩, p, c, rfl, hlc, hfp, hft⟩
end
end Go.Proofs.YtlhdofkgcbmnnaaGreatDoor

namespace Go.Proofs.YtlhdofkgcbmnnaaGreatDoor
open Go.ChangeShapes Go.WideShapes Go.ChangeAt Go.RowKit Go.Proofs.Heap Go.Proofs.Sch Go.Proofs.Wide

section
variable {H : Type} {enc : TypeId × Value → H} {W : World}

def RulFit (B : Nat) (w : World) (b o : Nat) (x : Rul) : Prop := RulAt B w b o x ∧ ∀ y ∈ x.exprs, ∀ u ∈ y, u.k.fit
set_option maxRecDepth 100000 in
theorem open_rul (a : Addr) (n : Nat) (cs : List Value) (D : DataW H × List MemPlace) (hc : W.cells? 0 a 3 = some cs) (h : DataW.trod enc Tryz.prog W 0 (fun _ => true) true n 46 cs = some D) :
    a.spot = none ∧ a.block < W.heap.size ∧ ∃ x : Rul, RulFit W.heap.size W a.block a.off x := by
  have hs_int : Tryz.prog.cellsOf 3 = 1 := by kernel_rfl
  have hs_ex : Tryz.prog.cellsOf 44 = 1 := by kernel_rfl
  obtain ⟨_, hlen, hat⟩ := World.cells?_some hc
  obtain ⟨y0, y1, y2, n', _, _, t0, t1, t2⟩ := Go.Deep.trod_struct3 Tryz.underlying46 h
  match cs, hlen with
  | [u0, u1, u2], _ =>
    have g0 := hat 0 (by omega)
    have g1 := hat 1 (by omega)
    have g2 := hat 2 (by omega)
    simp only [hs_int, hs_ex, List.drop, List.take] at t0 t1 t2
    obtain ⟨K0, eK0, _, _⟩ := DataW.trod_int Tryz.underlying3 t0
    obtain ⟨K1, eK1, _, _⟩ := DataW.trod_int Tryz.underlying3 t1
    obtain ⟨p, c, l, eK2, hlc, hfp, hft⟩ := open_exprs t2
    simp at eK0 eK1 eK2
    subst eK0; subst eK1; subst eK2
    obtain ⟨h1, h2⟩ := spot_of g0
    obtain ⟨b, off, spot⟩ := a
    simp only at h1 h2
    subst h1
    rw [addr_add] at g0 g1 g2
    exact ⟨rfl, h2, ⟨K0, K1, l⟩, ⟨g0, g1, p, c, g2, hlc, hfp⟩, hft⟩
theorem open_rules {fuel : Nat} {cs : List Value} {x : DataW H × List MemPlace} (h : DataW.trod enc Tryz.prog W 0 (fun _ => true) true fuel 22 cs = some x) :
    ∃ (p : Option Addr) (c : Nat) (l : List Rul), cs = [.slice p l.length c] ∧ l.length ≤ c ∧ UP W W.heap.size p l ∧ ∀ r ∈ l, ∀ y ∈ r.exprs, ∀ u ∈ y, u.k.fit := by
  obtain ⟨p, c, l, h1, h2, h3⟩ := open_row Tryz.underlying22 (by kernel_rfl) (RulFit W.heap.size) (fun a n cs D hc h => open_rul a n cs D hc h) h
  refine ⟨p, c, l, h1, h2, RowP.imp h3 (Nat.le_refl _) (fun _ _ _ _ h => h.1), fun y hy => ?_⟩
  rcases h3 with rfl | ⟨b, off, _, _, hc⟩
  · cases hy
  · obtain ⟨i, hi⟩ := List.getElem?_of_mem hy
    exact (hc i y hi).2

set_option maxRecDepth 100000 in
/-- A program of rules that a law is handed. -/
theorem open_prog_of {v : Value} {r : Reach} {b : Nat} (hv : Value.okWide Tryz.prog W r b 24 v) {fuel : Nat} {x : DataW H × List MemPlace} (h : DataW.trod enc Tryz.prog W 0 (fun _ => true) true fuel 24 v.cells.toList = some x) :
    ∃ (f t : Int) (l : List Rul) (p : Option Addr) (z : Nat), v = .agg #[.int .i64 f, .int .i64 t, .slice p l.length z] ∧ l.length ≤ z ∧ UP W W.heap.size p l ∧ ∀ r ∈ l, ∀ y ∈ r.exprs, ∀ u ∈ y, u.k.fit := by
  have hs_int : Tryz.prog.cellsOf 3 = 1 := by kernel_rfl
  have hs_ex : Tryz.prog.cellsOf 22 = 1 := by kernel_rfl
  have hs : Tryz.prog.cellsOf 24 = 3 := by kernel_rfl
  unfold Value.okWide at hv
  rw [Tryz.underlying24] at hv
  obtain ⟨cs, rfl, hsz, _⟩ := hv
  rw [hs] at hsz
  obtain ⟨⟨u0, u1, u2, rfl⟩⟩ : Nonempty (∃ u0 u1 u2, cs = #[u0, u1, u2]) := by
    obtain ⟨l⟩ := cs
    match l, hsz with
    | [u0, u1, u2], _ => exact ⟨u0, u1, u2, rfl⟩
  obtain ⟨y0, y1, y2, n', _, _, t0, t1, t2⟩ := Go.Deep.trod_struct3 Tryz.underlying24 h
  simp only [Value.cells, hs_int, hs_ex, List.drop, List.take] at t0 t1 t2
  obtain ⟨K0, eK0, _, _⟩ := DataW.trod_int Tryz.underlying3 t0
  obtain ⟨K1, eK1, _, _⟩ := DataW.trod_int Tryz.underlying3 t1
  obtain ⟨p, c, l, eK2, hlc, hfp, hft⟩ := open_rules t2
  simp at eK0 eK1 eK2
  subst eK0; subst eK1; subst eK2
  exact ⟨K0, K1, l, p, c, rfl, hlc, hfp, hft⟩
end
end Go.Proofs.YtlhdofkgcbmnnaaGreatDoor

namespace Go.Proofs.YtlhdofkgcbmnnaaGreatDoor
open Go.RowKit
theorem wf_u8C {K : Int} (h : (Lit.int .u8 K).wf = true) : ∃ m : UInt8, K = (m.toNat : Int) := by
  have h : IntKind.u8.min ≤ K ∧ K ≤ IntKind.u8.max := by simpa [Lit.wf] using h
  have h1 : IntKind.u8.min = 0 := by decide
  have h2 : IntKind.u8.max = 255 := by decide
  refine ⟨UInt8.ofNat K.toNat, ?_⟩
  rw [UInt8.toNat_ofNat']
  omega
end Go.Proofs.YtlhdofkgcbmnnaaGreatDoor

namespace Go.Proofs.YtlhdofkgcbmnnaaGreatDoor
open Go.RowKit Go.Proofs.Heap Go.Proofs.Sch Go.Proofs.Wide

theorem ruback_true (a b : Int) (rs : List Rul) (pa : Option Addr) (ca : Nat) (c d : Int) (us : List Rul) (pb : Option Addr) (cb : Nat) (bytes : ByteArray) (m : UInt8) (w : World) (_h1 : rs.length ≤ ca) (hA : UP w w.heap.size pa rs) (hfA : ∀ r ∈ rs, ∀ y ∈ r.exprs, ∀ u ∈ y, u.k.fit) (_h2 : us.length ≤ cb) (hB : UP w w.heap.size pb us) (hfB : ∀ r ∈ us, ∀ y ∈ r.exprs, ∀ u ∈ y, u.k.fit) (hbs : bytes.size ≤ maxLen) :
    Calls Tryz.prog 5 #[.agg #[.int .i64 a, .int .i64 b, .slice pa rs.length ca], .agg #[.int .i64 c, .int .i64 d, .slice pb us.length cb], .string bytes, .int .u8 (m.toNat : Int)] w fun e w' => e = .returned (.bool true) ∧ Below w.heap.size w w' :=
  (ru_back a b c d rs us pa ca pb cb bytes m w hfA hfB hA hB (by unfold maxLen at hbs; omega)).mono fun _ _ h => ⟨h.1, h.2.below⟩
end Go.Proofs.YtlhdofkgcbmnnaaGreatDoor
