/- What is proved: what a law is handed as a schema, as components, as fields, is plain data in memory. -/
import Derived.Test.YtjebgidddfamlaaDoorMHeap
import Derived.Test.YtjebgidddfamlaaDoorProg
import Derived.Deep.Slices
import Derived.Deep.Strs
import Derived.ProofKit
import Derived.OpenShut
import Derived.ShutString
import Derived.ChangeOld
import Derived.Below
import Derived.Test.YtjebgidddfamlaaDoorMWide2
import Derived.Lib.SmallJoins
import Derived.Test.YtjebgidddfamlaaDoorMWr
import Derived.SizedLaws
import Derived.Test.YtjebgidddfamlaaDoorMExAwake
namespace Go.Proofs.YtjebgidddfamlaaDoor
open Go.ChangeShapes Go.WideShapes Go.ChangeAt Go.RowKit Go.Proofs.Heap Go.Proofs.Sch

theorem u64_wf {z : Int} (h : (Lit.int .u64 z).wf = true) : 0 ≤ z ∧ z < 18446744073709551616 := by
  have h : IntKind.u64.min ≤ z ∧ z ≤ IntKind.u64.max := by simpa [Lit.wf] using h
  have h1 : IntKind.u64.min = 0 := by decide
  have h2 : IntKind.u64.max = 18446744073709551615 := by decide
  omega

section
variable {H : Type} {enc : TypeId × Value → H} {W : World}

theorem addr_add (b off i : Nat) : (⟨b, off, none⟩ : Addr).add i = ⟨b, off + i, none⟩ := by unfold Addr.add; split <;> simp_all

/-- A row of things that a law is handed. -/
theorem open_row {α : Type} {z : Nat} {t e : TypeId} (ht : Tryd.prog.underlying t = some (.slice e)) (hsz : Tryd.prog.cellsOf e = z) (at_ : World → Nat → Nat → α → Prop)
    (hel : ∀ (a : Addr) (n : Nat) (cs : List Value) (D : DataW H × List MemPlace), W.cells? 0 a z = some cs → DataW.trod enc Tryd.prog W 0 (fun _ => true) true n e cs = some D → a.spot = none ∧ a.block < W.heap.size ∧ ∃ x : α, at_ W a.block a.off x)
    {fuel : Nat} {cs : List Value} {x : DataW H × List MemPlace} (h : DataW.trod enc Tryd.prog W 0 (fun _ => true) true fuel t cs = some x) :
    ∃ (p : Option Addr) (c : Nat) (l : List α), cs = [.slice p l.length c] ∧ l.length ≤ c ∧ RowP z at_ W W.heap.size p l := by
  rcases Go.Deep.open_slice ht h with ⟨hcs, _⟩ | ⟨a, len, cap, m, n, D, Pl, hcs, _, hl, hm, hz', _, hcell⟩
  · exact ⟨none, 0, [], hcs, Nat.le_refl _, .inl rfl⟩
  · have hmc : m = cap := by simpa using hz'
    subst hmc
    rw [hsz] at hcell
    by_cases hl0 : len = 0
    · subst hl0
      exact ⟨some a, m, [], hcs, Nat.zero_le _, .inl rfl⟩
    · obtain ⟨b, off, spot⟩ := a
      have hblk : spot = none ∧ b < W.heap.size := by
        obtain ⟨cs', hc1, hc2⟩ := hcell 0 (by omega)
        obtain ⟨h1, h2, _⟩ := hel _ _ _ _ hc1 hc2
        refine ⟨?_, by simpa [Addr.add] using h2⟩
        simpa [Addr.add] using h1
      obtain ⟨rfl, hb⟩ := hblk
      have key : ∀ k, k ≤ len → ∃ l : List α, l.length = k ∧ ∀ i y, l[i]? = some y → at_ W b (off + i * z) y := by
        intro k
        induction k with
        | zero => exact fun _ => ⟨[], rfl, fun i y hy => by simp at hy⟩
        | succ k ih =>
          intro hk
          obtain ⟨l, hll, hla⟩ := ih (by omega)
          obtain ⟨cs', hc1, hc2⟩ := hcell k (by omega)
          obtain ⟨_, _, y, hy⟩ := hel _ _ _ _ hc1 hc2
          rw [addr_add] at hy
          refine ⟨l ++ [y], by simp [hll], fun i u hu => ?_⟩
          by_cases hik : i < k
          · rw [List.getElem?_append_left (by omega)] at hu
            exact hla i u hu
          · rw [List.getElem?_append_right (by omega)] at hu
            have : i = k := by
              have := (List.getElem?_eq_some_iff.1 hu).1
              simp at this
              omega
            subst this
            simp [hll] at hu
            subst hu
            exact hy
      obtain ⟨l, hll, hla⟩ := key len (Nat.le_refl _)
      subst hll
      exact ⟨_, m, l, hcs, hl, .inr ⟨b, off, rfl, hb, hla⟩⟩

theorem spot_of {a : Addr} {v : Value} (h : W.cell? (a.add 0) = some v) : a.spot = none ∧ a.block < W.heap.size := by
  obtain ⟨b, off, spot⟩ := a
  have h1 : spot = none := by simpa [Addr.add] using World.cell?_spot h
  subst h1
  rw [addr_add] at h
  exact ⟨rfl, World.block_lt_of_cell? W _ h⟩

end
end Go.Proofs.YtjebgidddfamlaaDoor

namespace Go.Proofs.YtjebgidddfamlaaDoor
open Go.ChangeShapes Go.WideShapes Go.ChangeAt Go.RowKit Go.Proofs.Heap Go.Proofs.Sch Go.Proofs.Wide

section
variable {H : Type} {enc : TypeId × Value → H} {W : World}

def InsFit (w : World) (b o : Nat) (x : Ins) : Prop := InsAt w b o x ∧ x.k.fit

set_option maxRecDepth 100000 in
theorem open_ins (a : Addr) (n : Nat) (cs : List Value) (D : DataW H × List MemPlace) (hc : W.cells? 0 a 6 = some cs) (h : DataW.trod enc Tryd.prog W 0 (fun _ => true) true n 36 cs = some D) :
    a.spot = none ∧ a.block < W.heap.size ∧ ∃ x : Ins, InsFit W a.block a.off x := by
  have hs_bool : Tryd.prog.cellsOf 4 = 1 := by kernel_rfl
  have hs_u64 : Tryd.prog.cellsOf 32 = 1 := by kernel_rfl
  have hs_int : Tryd.prog.cellsOf 3 = 1 := by kernel_rfl
  have hs_k : Tryd.prog.cellsOf 34 = 3 := by kernel_rfl
  obtain ⟨_, hlen, hat⟩ := World.cells?_some hc
  obtain ⟨y0, y1, y2, y3, n', _, _, t0, t1, t2, t3⟩ := Go.Joins.trod_struct4 Tryd.underlying36 h
  match cs, hlen with
  | [u0, u1, u2, u3, u4, u5], _ =>
    have g0 := hat 0 (by omega)
    have g1 := hat 1 (by omega)
    have g2 := hat 2 (by omega)
    have g3 := hat 3 (by omega)
    have g4 := hat 4 (by omega)
    have g5 := hat 5 (by omega)
    simp only [hs_int, hs_k, List.drop, List.take] at t0 t1 t2 t3
    obtain ⟨K0, eK0, _, _⟩ := DataW.trod_int Tryd.underlying3 t0
    obtain ⟨K1, eK1, _, _⟩ := DataW.trod_int Tryd.underlying3 t1
    obtain ⟨K2, eK2, _, _⟩ := DataW.trod_int Tryd.underlying3 t2
    obtain ⟨z0, z1, z2, n2, _, _, r0, r1, r2⟩ := Go.Deep.trod_struct3 Tryd.underlying34 t3
    simp only [hs_bool, hs_u64, List.drop, List.take] at r0 r1 r2
    obtain ⟨K3, eK3, _⟩ := DataW.trod_bool Tryd.underlying4 r0
    obtain ⟨K4, eK4, _, w1⟩ := DataW.trod_int Tryd.underlying32 r1
    obtain ⟨K5, eK5, _, w2⟩ := DataW.trod_int Tryd.underlying32 r2
    simp at eK0 eK1 eK2 eK3 eK4 eK5
    subst eK0; subst eK1; subst eK2; subst eK3; subst eK4; subst eK5
    have b1 := u64_wf w1
    have b2 := u64_wf w2
    obtain ⟨N1, rfl⟩ := Int.eq_ofNat_of_zero_le b1.1
    obtain ⟨N2, rfl⟩ := Int.eq_ofNat_of_zero_le b2.1
    obtain ⟨h1, h2⟩ := spot_of g0
    obtain ⟨b, off, spot⟩ := a
    simp only at h1 h2
    subst h1
    rw [addr_add] at g0 g1 g2 g3 g4 g5
    exact ⟨rfl, h2, ⟨K0, K1, K2, ⟨K3, N1, N2⟩⟩, ⟨g0, g1, g2, g3, g4, g5⟩, by unfold WI.fit; simp only; omega⟩

theorem open_code {fuel : Nat} {cs : List Value} {x : DataW H × List MemPlace} (h : DataW.trod enc Tryd.prog W 0 (fun _ => true) true fuel 22 cs = some x) :
    ∃ (p : Option Addr) (c : Nat) (l : List Ins), cs = [.slice p l.length c] ∧ l.length ≤ c ∧ IP W W.heap.size p l ∧ ∀ y ∈ l, y.k.fit := by
  obtain ⟨p, c, l, h1, h2, h3⟩ := open_row Tryd.underlying22 (by kernel_rfl) InsFit (fun a n cs D hc h => open_ins a n cs D hc h) h
  refine ⟨p, c, l, h1, h2, RowP.imp h3 (Nat.le_refl _) (fun _ _ _ _ h => h.1), fun y hy => ?_⟩
  rcases h3 with rfl | ⟨b, off, _, _, hc⟩
  · cases hy
  · obtain ⟨i, hi⟩ := List.getElem?_of_mem hy
    exact (hc i y hi).2

def ExFit (B : Nat) (w : World) (b o : Nat) (x : List Ins) : Prop := ExAt B w b o x ∧ ∀ y ∈ x, y.k.fit

set_option maxRecDepth 100000 in
theorem open_ex (a : Addr) (n : Nat) (cs : List Value) (D : DataW H × List MemPlace) (hc : W.cells? 0 a 1 = some cs) (h : DataW.trod enc Tryd.prog W 0 (fun _ => true) true n 22 cs = some D) :
    a.spot = none ∧ a.block < W.heap.size ∧ ∃ x : List Ins, ExFit W.heap.size W a.block a.off x := by
  obtain ⟨_, hlen, hat⟩ := World.cells?_some hc
  obtain ⟨p, c, l, e1, hlc, hip, hif⟩ := open_code h
  subst e1
  have g0 := hat 0 (by simp)
  obtain ⟨h1, h2⟩ := spot_of g0
  obtain ⟨b, off, spot⟩ := a
  simp only at h1 h2
  subst h1
  rw [addr_add] at g0
  exact ⟨rfl, h2, l, ⟨p, c, g0, hlc, hip⟩, hif⟩
end
end Go.Proofs.YtjebgidddfamlaaDoor

namespace Go.Proofs.YtjebgidddfamlaaDoor
open Go.ChangeShapes Go.WideShapes Go.ChangeAt Go.RowKit Go.Proofs.Heap Go.Proofs.Sch Go.Proofs.Wide

section
variable {H : Type} {enc : TypeId × Value → H} {W : World}

def IntFit (w : World) (b o : Nat) (x : WI) : Prop := IntAt w b o x ∧ x.fit

set_option maxRecDepth 100000 in
theorem open_wide (a : Addr) (n : Nat) (cs : List Value) (D : DataW H × List MemPlace) (hc : W.cells? 0 a 3 = some cs) (h : DataW.trod enc Tryd.prog W 0 (fun _ => true) true n 34 cs = some D) :
    a.spot = none ∧ a.block < W.heap.size ∧ ∃ x : WI, IntFit W a.block a.off x := by
  have hs_bool : Tryd.prog.cellsOf 4 = 1 := by kernel_rfl
  have hs_u64 : Tryd.prog.cellsOf 32 = 1 := by kernel_rfl
  obtain ⟨_, hlen, hat⟩ := World.cells?_some hc
  obtain ⟨y0, y1, y2, n', _, _, t0, t1, t2⟩ := Go.Deep.trod_struct3 Tryd.underlying34 h
  match cs, hlen with
  | [u0, u1, u2], _ =>
    have g0 := hat 0 (by omega)
    have g1 := hat 1 (by omega)
    have g2 := hat 2 (by omega)
    simp only [hs_bool, hs_u64, List.drop, List.take] at t0 t1 t2
    obtain ⟨K0, eK0, _⟩ := DataW.trod_bool Tryd.underlying4 t0
    obtain ⟨K1, eK1, _, w1⟩ := DataW.trod_int Tryd.underlying32 t1
    obtain ⟨K2, eK2, _, w2⟩ := DataW.trod_int Tryd.underlying32 t2
    simp at eK0 eK1 eK2
    subst eK0; subst eK1; subst eK2
    have b1 := u64_wf w1
    have b2 := u64_wf w2
    obtain ⟨N1, rfl⟩ := Int.eq_ofNat_of_zero_le b1.1
    obtain ⟨N2, rfl⟩ := Int.eq_ofNat_of_zero_le b2.1
    obtain ⟨h1, h2⟩ := spot_of g0
    obtain ⟨b, off, spot⟩ := a
    simp only at h1 h2
    subst h1
    rw [addr_add] at g0 g1 g2
    exact ⟨rfl, h2, ⟨K0, N1, N2⟩, ⟨g0, g1, g2⟩, by unfold WI.fit; simp only; omega⟩

theorem open_wides {fuel : Nat} {cs : List Value} {x : DataW H × List MemPlace} (h : DataW.trod enc Tryd.prog W 0 (fun _ => true) true fuel 43 cs = some x) :
    ∃ (p : Option Addr) (c : Nat) (l : List WI), cs = [.slice p l.length c] ∧ l.length ≤ c ∧ XP W W.heap.size p l ∧ ∀ y ∈ l, y.fit := by
  obtain ⟨p, c, l, h1, h2, h3⟩ := open_row Tryd.underlying43 (by kernel_rfl) IntFit (fun a n cs D hc h => open_wide a n cs D hc h) h
  refine ⟨p, c, l, h1, h2, RowP.imp h3 (Nat.le_refl _) (fun _ _ _ _ h => h.1), fun y hy => ?_⟩
  rcases h3 with rfl | ⟨b, off, _, _, hc⟩
  · cases hy
  · obtain ⟨i, hi⟩ := List.getElem?_of_mem hy
    exact (hc i y hi).2

end
end Go.Proofs.YtjebgidddfamlaaDoor

namespace Go.Proofs.YtjebgidddfamlaaDoor
open Go.ChangeShapes Go.WideShapes Go.ChangeAt Go.RowKit Go.Proofs.Heap Go.Proofs.Sch

section
variable {H : Type} {enc : TypeId × Value → H} {W : World}

/-- No weight is past what an argument may have. -/
def SZ (P : Program) (t : TypeId) (D : DataW H) : Prop := ∀ n ∈ D.weights P t, n ≤ reachBytes

theorem sz_all {P : Program} {e : TypeId} : ∀ {l : List (DataW H)} {d : DataW H}, d ∈ l → ∀ n ∈ d.weights P e, n ∈ DataW.weightsAll P e l
  | [], _, h, _, _ => by simp at h
  | x :: l, d, h, n, hn => by
    simp only [DataW.weightsAll, List.mem_append]
    rcases List.mem_cons.1 h with rfl | h
    · exact .inl hn
    · exact .inr (sz_all h n hn)
theorem SZ.elem {P : Program} {t e : TypeId} {l s : List (DataW H)} (h : SZ P t (.slice l s)) (ht : P.underlying t = some (.slice e)) {d : DataW H} (hd : d ∈ l) : SZ P e d := fun n hn => h n (by
  simp only [DataW.weights, ht, List.mem_cons, List.mem_append]
  exact .inr (.inl (sz_all hd n hn)))
theorem SZ.len {P : Program} {t e : TypeId} {l s : List (DataW H)} (h : SZ P t (.slice l s)) (ht : P.underlying t = some (.slice e)) : l.length * P.bytesOf e ≤ reachBytes := by
  have := h ((l.length + s.length) * P.bytesOf e) (by simp [DataW.weights, ht])
  rw [Nat.add_mul] at this
  omega
theorem SZ.part {P : Program} {t : TypeId} {fs : Array Field} {l : List (DataW H)} (h : SZ P t (.agg l)) (ht : P.underlying t = some (.struct fs)) {j : Nat} {u : TypeId} {d : DataW H} (hu : (fs.toList.map (·.type))[j]? = some u) (hd : l[j]? = some d) : SZ P u d := fun n hn => h n (by
  simp only [DataW.weights, ht]
  exact DataW.weights_mem_each hu hd n hn)
theorem SZ.arg {P : Program} {ts : List TypeId} {ds : List (DataW H)} (h : (DataW.weightsEach P ts ds).all (· ≤ reachBytes) = true) {j : Nat} {t : TypeId} {d : DataW H} (ht : ts[j]? = some t) (hd : ds[j]? = some d) : SZ P t d := fun n hn => by
  have := List.all_eq_true.1 h _ (DataW.weights_mem_each ht hd n hn)
  simpa using this

/-- A row of things that a law is handed. -/
theorem open_row_s {α : Type} {z : Nat} {t e : TypeId} (ht : Tryd.prog.underlying t = some (.slice e)) (hsz : Tryd.prog.cellsOf e = z) (at_ : World → Nat → Nat → α → Prop) (Q : α → Prop)
    (hel : ∀ (a : Addr) (n : Nat) (cs : List Value) (D : DataW H × List MemPlace), W.cells? 0 a z = some cs → DataW.trod enc Tryd.prog W 0 (fun _ => true) true n e cs = some D → SZ Tryd.prog e D.1 → a.spot = none ∧ a.block < W.heap.size ∧ ∃ x : α, at_ W a.block a.off x ∧ Q x)
    {fuel : Nat} {cs : List Value} {x : DataW H × List MemPlace} (h : DataW.trod enc Tryd.prog W 0 (fun _ => true) true fuel t cs = some x) (hx : SZ Tryd.prog t x.1) :
    ∃ (p : Option Addr) (c : Nat) (l : List α), cs = [.slice p l.length c] ∧ l.length ≤ c ∧ RowP z at_ W W.heap.size p l ∧ (∀ y ∈ l, Q y) ∧ l.length * Tryd.prog.bytesOf e ≤ reachBytes := by
  rcases Go.Deep.open_slice ht h with ⟨hcs, _⟩ | ⟨a, len, cap, m, n, D, Pl, hcs, _, hl, hm, hz', hxe, hcell⟩
  · exact ⟨none, 0, [], hcs, Nat.le_refl _, .inl rfl, fun y hy => by simp at hy, by simp⟩
  · have hmc : m = cap := by simpa using hz'
    subst hmc
    rw [hsz] at hcell
    rw [hxe] at hx
    have hlen := hx.len ht
    have hpart : ∀ i, i < len → SZ Tryd.prog e (D i) := fun i hi => hx.elem ht (List.mem_map.2 ⟨i, List.mem_range.2 hi, rfl⟩)
    simp only [List.length_map, List.length_range] at hlen
    by_cases hl0 : len = 0
    · subst hl0
      exact ⟨some a, m, [], hcs, Nat.zero_le _, .inl rfl, fun y hy => by simp at hy, by simp⟩
    · obtain ⟨b, off, spot⟩ := a
      have hblk : spot = none ∧ b < W.heap.size := by
        obtain ⟨cs', hc1, hc2⟩ := hcell 0 (by omega)
        obtain ⟨h1, h2, _⟩ := hel _ _ _ _ hc1 hc2 (hpart 0 (by omega))
        refine ⟨?_, by simpa [Addr.add] using h2⟩
        simpa [Addr.add] using h1
      obtain ⟨rfl, hb⟩ := hblk
      have key : ∀ k, k ≤ len → ∃ l : List α, l.length = k ∧ (∀ i y, l[i]? = some y → at_ W b (off + i * z) y) ∧ ∀ y ∈ l, Q y := by
        intro k
        induction k with
        | zero => exact fun _ => ⟨[], rfl, fun i y hy => by simp at hy, fun y hy => by simp at hy⟩
        | succ k ih =>
          intro hk
          obtain ⟨l, hll, hla, hlq⟩ := ih (by omega)
          obtain ⟨cs', hc1, hc2⟩ := hcell k (by omega)
          obtain ⟨_, _, y, hy, hq⟩ := hel _ _ _ _ hc1 hc2 (hpart k (by omega))
          rw [addr_add] at hy
          refine ⟨l ++ [y], by simp [hll], fun i u hu => ?_, fun u hu => ?_⟩
          · by_cases hik : i < k
            · rw [List.getElem?_append_left (by omega)] at hu
              exact hla i u hu
            · rw [List.getElem?_append_right (by omega)] at hu
              have : i = k := by
                have := (List.getElem?_eq_some_iff.1 hu).1
                simp at this
                omega
              subst this
              simp [hll] at hu
              subst hu
              exact hy
          · rcases List.mem_append.1 hu with hu | hu
            · exact hlq u hu
            · rw [List.mem_singleton.1 hu]; exact hq
      obtain ⟨l, hll, hla, hlq⟩ := key len (Nat.le_refl _)
      subst hll
      exact ⟨_, m, l, hcs, hl, .inr ⟨b, off, rfl, hb, hla⟩, hlq, hlen⟩

theorem reach_eq : reachBytes = 140737488351232 := rfl

def CmpS (c : Cmp) : Prop := c.fs.length ≤ 4398046510976
end
end Go.Proofs.YtjebgidddfamlaaDoor

namespace Go.Proofs.YtjebgidddfamlaaDoor
open Go.ChangeShapes Go.WideShapes Go.ChangeAt Go.RowKit Go.Proofs.Heap Go.Proofs.Sch Go.Proofs.Wide

section
variable {H : Type} {enc : TypeId × Value → H} {W : World}

theorem nil_cap {t e : TypeId} (ht : Tryd.prog.underlying t = some (.slice e)) {fuel : Nat} {p : Option Addr} {n c : Nat} {x : DataW H × List MemPlace} (h : DataW.trod enc Tryd.prog W 0 (fun _ => true) true fuel t [.slice p n c] = some x) : p = none → c = 0 := by
  intro hp
  subst hp
  rcases Go.Deep.open_slice ht h with ⟨hcs, _⟩ | ⟨a, len, cap, m, n, D, Pl, hcs, _⟩
  · simp at hcs; exact hcs.2
  · simp at hcs
set_option maxRecDepth 100000 in
/-- A great number that a law is handed. -/
theorem open_wide_of {v : Value} {r : Reach} {b : Nat} (hv : Value.okWide Tryd.prog W r b 34 v) {fuel : Nat} {x : DataW H × List MemPlace} (h : DataW.trod enc Tryd.prog W 0 (fun _ => true) true fuel 34 v.cells.toList = some x) :
    ∃ y : WI, v = .agg #[.bool y.neg, .int .u64 (y.hi : Int), .int .u64 (y.lo : Int)] ∧ y.fit := by
  have hs_bool : Tryd.prog.cellsOf 4 = 1 := by kernel_rfl
  have hs_u64 : Tryd.prog.cellsOf 32 = 1 := by kernel_rfl
  have hs : Tryd.prog.cellsOf 34 = 3 := by kernel_rfl
  unfold Value.okWide at hv
  rw [Tryd.underlying34] at hv
  obtain ⟨cs, rfl, hsz, _⟩ := hv
  rw [hs] at hsz
  obtain ⟨⟨u0, u1, u2, rfl⟩⟩ : Nonempty (∃ u0 u1 u2, cs = #[u0, u1, u2]) := by
    obtain ⟨l⟩ := cs
    match l, hsz with
    | [u0, u1, u2], _ => exact ⟨u0, u1, u2, rfl⟩
  obtain ⟨y0, y1, y2, n', _, _, t0, t1, t2⟩ := Go.Deep.trod_struct3 Tryd.underlying34 h
  simp only [Value.cells, hs_bool, hs_u64, List.drop, List.take] at t0 t1 t2
  obtain ⟨K0, eK0, _⟩ := DataW.trod_bool Tryd.underlying4 t0
  obtain ⟨K1, eK1, _, w1⟩ := DataW.trod_int Tryd.underlying32 t1
  obtain ⟨K2, eK2, _, w2⟩ := DataW.trod_int Tryd.underlying32 t2
  simp at eK0 eK1 eK2
  subst eK0; subst eK1; subst eK2
  have b1 := u64_wf w1
  have b2 := u64_wf w2
  obtain ⟨N1, rfl⟩ := Int.eq_ofNat_of_zero_le b1.1
  obtain ⟨N2, rfl⟩ := Int.eq_ofNat_of_zero_le b2.1
  exact ⟨⟨K0, N1, N2⟩, rfl, by unfold WI.fit; simp only; omega⟩
end
end Go.Proofs.YtjebgidddfamlaaDoor

namespace Go.Proofs.YtjebgidddfamlaaDoor
open Go.ChangeShapes Go.WideShapes Go.ChangeAt Go.RowKit Go.Proofs.Heap Go.Proofs.Sch Go.Proofs.Wide

section
variable {H : Type} {enc : TypeId × Value → H} {W : World}
def NumsFitN (B : Nat) (w : World) (b o : Nat) (x : List WI) : Prop := NumsAtN B w b o x ∧ FitL x

set_option maxRecDepth 100000 in
theorem open_numsN (a : Addr) (n : Nat) (cs : List Value) (D : DataW H × List MemPlace) (hc : W.cells? 0 a 1 = some cs) (h : DataW.trod enc Tryd.prog W 0 (fun _ => true) true n 43 cs = some D) :
    a.spot = none ∧ a.block < W.heap.size ∧ ∃ x : List WI, NumsFitN W.heap.size W a.block a.off x := by
  obtain ⟨_, hlen, hat⟩ := World.cells?_some hc
  obtain ⟨p, c, l, e1, hlc, hip, hif⟩ := open_wides h
  subst e1
  have hn := nil_cap Tryd.underlying43 h
  have g0 := hat 0 (by simp)
  obtain ⟨h1, h2⟩ := spot_of g0
  obtain ⟨b, off, spot⟩ := a
  simp only at h1 h2
  subst h1
  rw [addr_add] at g0
  exact ⟨rfl, h2, l, ⟨p, c, g0, hlc, hip, hn⟩, hif⟩
theorem open_numrowsN {fuel : Nat} {cs : List Value} {x : DataW H × List MemPlace} (h : DataW.trod enc Tryd.prog W 0 (fun _ => true) true fuel 38 cs = some x) :
    ∃ (p : Option Addr) (c : Nat) (l : List (List WI)), cs = [.slice p l.length c] ∧ l.length ≤ c ∧ YPN W W.heap.size p l ∧ FitF l := by
  obtain ⟨p, c, l, h1, h2, h3⟩ := open_row Tryd.underlying38 (by kernel_rfl) (NumsFitN W.heap.size) (fun a n cs D hc h => open_numsN a n cs D hc h) h
  refine ⟨p, c, l, h1, h2, RowP.imp h3 (Nat.le_refl _) (fun _ _ _ _ h => h.1), fun y hy => ?_⟩
  rcases h3 with rfl | ⟨b, off, _, _, hc⟩
  · cases hy
  · obtain ⟨i, hi⟩ := List.getElem?_of_mem hy
    exact (hc i y hi).2
end
end Go.Proofs.YtjebgidddfamlaaDoor

namespace Go.Proofs.YtjebgidddfamlaaDoor
open Go.RowKit Go.Proofs.Heap Go.Proofs.Sch Go.Proofs.Wide

theorem exhangs_true (code : List Ins) (p : Option Addr) (c : Nat) (fs : List (List WI)) (q : Option Addr) (qc : Nat) (pl : Int) (_h1 : -9223372036854775808 ≤ pl) (h2 : pl ≤ 9223372036854775807) (f k : Int) (x : WI) (w : World)
    (_lc : code.length ≤ c) (hf : IP w w.heap.size p code) (hfit : ∀ x ∈ code, x.k.fit) (_lq : fs.length ≤ qc) (hq : YPN w w.heap.size q fs) (hfs : FitF fs) (hx : x.fit) :
    Calls Tryd.prog 4 #[.slice p code.length c, .slice q fs.length qc, .int .i64 pl, .int .i64 f, .int .i64 k, .agg #[.bool x.neg, .int .u64 (x.hi : Int), .int .u64 (x.lo : Int)]] w fun e w' => e = .returned (.bool true) ∧ Below w.heap.size w w' :=
  (ex_hangs code p c fs q qc pl f k x w hfit hfs hx (by omega) hf hq).mono fun _ _ h => ⟨h.1, h.2.below⟩
end Go.Proofs.YtjebgidddfamlaaDoor
