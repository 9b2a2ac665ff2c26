/- What is proved: what a law is handed as a row of strings, as a row of systems, is plain data in memory. -/
import Derived.Test.YtcbboaoakgngkaaMSdAhead
import Derived.Test.YtcbboaoakgngkaaMVf8
import Derived.Test.YtcbboaoakgngkaaMCr1
import Derived.Laws.BitsLemmas
import Derived.Deep.Cut
import Derived.Deep.CutRange
import Derived.Deep.CutBlock
import Derived.Test.YtcbboaoakgngkaaMRegion
import Derived.Laws.Externs
import Derived.Test.YtcbboaoakgngkaaMLay
import Derived.Test.YtcbboaoakgngkaaMVfLaw
namespace Go.Proofs.Ytcbboaoakgngkaa
open Go.ChangeShapes Go.WideShapes Go.ChangeAt Go.RowKit Go.Proofs.Heap Go.Proofs.Sch

section
variable {H : Type} {enc : TypeId × Value → H} {W : World}

theorem trod_struct6 {P : Program} {w : World} {base : Nat} {spare : Nat → Bool} {held : Bool} {t : TypeId} {f0 f1 f2 f3 f4 f5 : Field} {fuel : Nat} {cs : List Value} {x : DataW H × List MemPlace} (ht : P.underlying t = some (.struct #[f0, f1, f2, f3, f4, f5])) (h : DataW.trod enc P w base spare held fuel t cs = some x) :
    ∃ y0 y1 y2 y3 y4 y5 n, DataW.trod enc P w base spare held n f0.type ((cs.drop f0.offset).take (P.cellsOf f0.type)) = some y0 ∧
      DataW.trod enc P w base spare held n f1.type ((cs.drop f1.offset).take (P.cellsOf f1.type)) = some y1 ∧ DataW.trod enc P w base spare held n f2.type ((cs.drop f2.offset).take (P.cellsOf f2.type)) = some y2 ∧
      DataW.trod enc P w base spare held n f3.type ((cs.drop f3.offset).take (P.cellsOf f3.type)) = some y3 ∧ DataW.trod enc P w base spare held n f4.type ((cs.drop f4.offset).take (P.cellsOf f4.type)) = some y4 ∧ DataW.trod enc P w base spare held n f5.type ((cs.drop f5.offset).take (P.cellsOf f5.type)) = some y5 := by
  obtain ⟨xs, n, _, rfl, hl, hlen, hf⟩ := DataW.trod_struct ht h
  match xs, hlen with
  | [y0, y1, y2, y3, y4, y5], _ => exact ⟨y0, y1, y2, y3, y4, y5, n, by simpa using hf 0 f0 rfl, by simpa using hf 1 f1 rfl, by simpa using hf 2 f2 rfl, by simpa using hf 3 f3 rfl, by simpa using hf 4 f4 rfl, by simpa using hf 5 f5 rfl⟩

set_option maxRecDepth 100000 in
theorem open_str (a : Addr) (n : Nat) (cs : List Value) (D : DataW H × List MemPlace) (hc : W.cells? 0 a 1 = some cs) (h : DataW.trod enc Try.prog W 0 (fun _ => true) true n 9 cs = some D) :
    a.spot = none ∧ a.block < W.heap.size ∧ ∃ x : ByteArray, StrAt W a.block a.off x := by
  obtain ⟨_, hlen, hat⟩ := World.cells?_some hc
  match cs, hlen with
  | [u0], _ =>
    have g0 := hat 0 (by omega)
    obtain ⟨K0, eK0, _, _⟩ := DataW.trod_string Try.underlying9 h
    simp at eK0
    subst eK0
    obtain ⟨h1, h2⟩ := spot_of g0
    obtain ⟨b, off, spot⟩ := a
    simp only at h1 h2
    subst h1
    rw [addr_add] at g0
    exact ⟨rfl, h2, K0, g0⟩

set_option maxRecDepth 100000 in
theorem open_strs {fuel : Nat} {cs : List Value} {x : DataW H × List MemPlace} (h : DataW.trod enc Try.prog W 0 (fun _ => true) true fuel 39 cs = some x) :
    ∃ (p : Option Addr) (c : Nat) (l : List ByteArray), cs = [.slice p l.length c] ∧ l.length ≤ c ∧ TP W W.heap.size p l :=
  open_row Try.underlying39 (by kernel_rfl) StrAt (fun a n cs D hc h => open_str a n cs D hc h) h

theorem wf_u32 {K : Int} (h : (Lit.int .u32 K).wf = true) : 0 ≤ K ∧ K < 4294967296 := by
  have h : IntKind.u32.min ≤ K ∧ K ≤ IntKind.u32.max := by simpa [Lit.wf] using h
  have h1 : IntKind.u32.min = 0 := by decide
  have h2 : IntKind.u32.max = 4294967295 := by decide
  omega

set_option maxRecDepth 100000 in
theorem open_sys (a : Addr) (n : Nat) (cs : List Value) (D : DataW H × List MemPlace) (hc : W.cells? 0 a 6 = some cs) (h : DataW.trod enc Try.prog W 0 (fun _ => true) true n 43 cs = some D) :
    a.spot = none ∧ a.block < W.heap.size ∧ ∃ x : VSys, SysAt W.heap.size W a.block a.off x := by
  have hs_int : Try.prog.cellsOf 3 = 1 := by kernel_rfl
  have hs_string : Try.prog.cellsOf 9 = 1 := by kernel_rfl
  have hs_strs : Try.prog.cellsOf 39 = 1 := by kernel_rfl
  have hs_sig : Try.prog.cellsOf 41 = 1 := by kernel_rfl
  have hs_ops : Try.prog.cellsOf 22 = 1 := by kernel_rfl
  obtain ⟨_, hlen, hat⟩ := World.cells?_some hc
  obtain ⟨y0, y1, y2, y3, y4, y5, n', t0, t1, t2, t3, t4, t5⟩ := trod_struct6 Try.underlying43 h
  match cs, hlen with
  | [u0, u1, u2, u3, u4, u5], _ =>
    have g0 := hat 0 (by omega)
    have g1 := hat 1 (by omega)
    have g2 := hat 2 (by omega)
    have g3 := hat 3 (by omega)
    have g4 := hat 4 (by omega)
    have g5 := hat 5 (by omega)
    simp only [hs_int, hs_string, hs_strs, hs_sig, hs_ops, List.drop, List.take] at t0 t1 t2 t3 t4 t5
    obtain ⟨K0, eK0, _, _⟩ := DataW.trod_string Try.underlying9 t0
    obtain ⟨K1, eK1, _, _⟩ := DataW.trod_int Try.underlying3 t1
    obtain ⟨p2, c2, l2, eK2, hlc2, hfp2⟩ := open_strs t2
    obtain ⟨K3, eK3, _, wf3⟩ := DataW.trod_int Try.underlying41 t3
    obtain ⟨K4, eK4, _, wf4⟩ := DataW.trod_int Try.underlying41 t4
    obtain ⟨p5, c5, l5, eK5, hlc5, hfp5⟩ := open_ops t5
    simp at eK0 eK1 eK2 eK3 eK4 eK5
    subst eK0; subst eK1; subst eK2; subst eK3; subst eK4; subst eK5
    obtain ⟨b3, b3'⟩ := wf_u32 wf3
    obtain ⟨b4, b4'⟩ := wf_u32 wf4
    obtain ⟨N3, rfl⟩ := Int.eq_ofNat_of_zero_le b3
    obtain ⟨N4, rfl⟩ := Int.eq_ofNat_of_zero_le b4
    obtain ⟨h1, h2⟩ := spot_of g0
    obtain ⟨b, off, spot⟩ := a
    simp only at h1 h2
    subst h1
    rw [addr_add] at g0 g1 g2 g3 g4 g5
    exact ⟨rfl, h2, ⟨K0, K1, l2, N3, N4, l5⟩, g0, g1, g3, g4, by simp only; omega, by simp only; omega, p2, c2, p5, c5, g2, g5, hlc2, hfp2, hfp5⟩

set_option maxRecDepth 100000 in
theorem open_systems {fuel : Nat} {cs : List Value} {x : DataW H × List MemPlace} (h : DataW.trod enc Try.prog W 0 (fun _ => true) true fuel 37 cs = some x) :
    ∃ (p : Option Addr) (c : Nat) (l : List VSys), cs = [.slice p l.length c] ∧ l.length ≤ c ∧ SP W W.heap.size p l :=
  open_row Try.underlying37 (by kernel_rfl) (SysAt W.heap.size) (fun a n cs D hc h => open_sys a n cs D hc h) h
end
end Go.Proofs.Ytcbboaoakgngkaa

namespace Go.Proofs.Ytcbboaoakgngkaa
open Go.ChangeShapes Go.WideShapes Go.ChangeAt Go.RowKit Go.Proofs.Heap Go.Proofs.Sch

section
variable {H : Type} {enc : TypeId × Value → H} {W : World}
set_option maxRecDepth 100000 in
theorem open_num (a : Addr) (n : Nat) (cs : List Value) (D : DataW H × List MemPlace) (hc : W.cells? 0 a 1 = some cs) (h : DataW.trod enc Try.prog W 0 (fun _ => true) true n 3 cs = some D) :
    a.spot = none ∧ a.block < W.heap.size ∧ ∃ x : Int, IntAt W a.block a.off x := by
  obtain ⟨_, hlen, hat⟩ := World.cells?_some hc
  match cs, hlen with
  | [u0], _ =>
    have g0 := hat 0 (by omega)
    obtain ⟨K0, eK0, _, _⟩ := DataW.trod_int Try.underlying3 h
    simp at eK0
    subst eK0
    obtain ⟨h1, h2⟩ := spot_of g0
    obtain ⟨b, off, spot⟩ := a
    simp only at h1 h2
    subst h1
    rw [addr_add] at g0
    exact ⟨rfl, h2, K0, g0⟩
set_option maxRecDepth 100000 in
theorem open_introw {fuel : Nat} {cs : List Value} {x : DataW H × List MemPlace} (h : DataW.trod enc Try.prog W 0 (fun _ => true) true fuel 24 cs = some x) :
    ∃ (p : Option Addr) (c : Nat) (l : List Int), cs = [.slice p l.length c] ∧ l.length ≤ c ∧ IP W W.heap.size p l :=
  open_row Try.underlying24 (by kernel_rfl) IntAt (fun a n cs D hc h => open_num a n cs D hc h) h
end
end Go.Proofs.Ytcbboaoakgngkaa

namespace Go.Proofs.Ytcbboaoakgngkaa
open Go.RowKit Go.Proofs.Heap Go.Proofs.Sch

def SLA : List VSys := [⟨⟨#[99]⟩, 1, [], 0, 0, []⟩, ⟨⟨#[97]⟩, 1, [⟨#[98]⟩], 0, 0, []⟩, ⟨⟨#[98]⟩, 1, [], 0, 0, []⟩, ⟨⟨#[122]⟩, 0, [], 0, 0, []⟩]
def SLB : List VSys := [⟨⟨#[97]⟩, 0, [⟨#[98]⟩], 0, 0, []⟩, ⟨⟨#[98]⟩, 0, [⟨#[97]⟩], 0, 0, []⟩]
def SLC : List VSys := [⟨⟨#[97]⟩, 0, [⟨#[98]⟩], 0, 0, []⟩]
theorem sa1 : ordE SLA = 0 := by decide +kernel
theorem sa2 : ordL SLA = [3, 2, 1, 0] := by decide +kernel
theorem sa3 : ordE SLB = 7 := by decide +kernel
theorem sa4 : ordE SLC = 6 := by decide +kernel
theorem sa5 : aheadB SLA [3, 2, 1, 0] ⟨#[98]⟩ ⟨#[97]⟩ = true := by decide +kernel
theorem sa6 : aheadB SLA [3, 2, 1, 0] ⟨#[97]⟩ ⟨#[120]⟩ = false := by decide +kernel
theorem one_str {w : World} {b : Nat} {t : TypeId} {s : ByteArray} (h : w.heap[b]? = some (.cells #[.string s] t (0, 0))) {B : Nat} (hB : b < B) : TP w B (some ⟨b, 0, none⟩) [s] :=
  .inr ⟨b, 0, rfl, hB, fun i x hx => by
    match i, hx with
    | 0, hx => injection hx with hx; subst hx; exact cell_of h (by rfl)
    | _ + 1, hx => simp at hx⟩

set_option maxRecDepth 20000 in
set_option maxHeartbeats 16000000 in
theorem sd_awake (w : World) : Calls Try.prog 21 #[] w fun r w' => r = .returned (.bool true) ∧ Keep (fun _ => False) w w' := by
  obtain ⟨w1, hw1, hb1, hb2, hs1, hk1⟩ := box2 w #[.string ⟨#[98]⟩] #[.string ⟨#[99]⟩, .int .i64 1, .slice none 0 0, .int .u32 0, .int .u32 0, .slice none 0 0, .string ⟨#[97]⟩, .int .i64 1, .slice (some ⟨w.heap.size, 0, none⟩) 1 1, .int .u32 0, .int .u32 0, .slice none 0 0, .string ⟨#[98]⟩, .int .i64 1, .slice none 0 0, .int .u32 0, .int .u32 0, .slice none 0 0, .string ⟨#[122]⟩, .int .i64 0, .slice none 0 0, .int .u32 0, .int .u32 0, .slice none 0 0] 9 43
  have HK1 := hid hk1
  have HS1 : Hid (∀ wy, Keep (fun _ => False) w1 wy → SP wy wy.heap.size (some ⟨w.heap.size + 1, 0, none⟩) SLA) := hid (fun wy hk => by
    have k1 := hk.get hb1 id
    have k2 := hk.get hb2 id
    refine .inr ⟨_, 0, rfl, lt_of_heap k2, fun i x hx => ?_⟩
    match i, hx with
    | 0, hx => injection hx with hx; subst hx; exact ⟨cell_of k2 (by rfl), cell_of k2 (by rfl), cell_of k2 (by rfl), cell_of k2 (by rfl), by decide, by decide, none, 0, none, 0, cell_of k2 (by rfl), cell_of k2 (by rfl), by decide, .inl rfl, .inl rfl⟩
    | 1, hx => injection hx with hx; subst hx; exact ⟨cell_of k2 (by rfl), cell_of k2 (by rfl), cell_of k2 (by rfl), cell_of k2 (by rfl), by decide, by decide, _, 1, none, 0, cell_of k2 (by rfl), cell_of k2 (by rfl), by decide, one_str k1 (lt_of_heap k1), .inl rfl⟩
    | 2, hx => injection hx with hx; subst hx; exact ⟨cell_of k2 (by rfl), cell_of k2 (by rfl), cell_of k2 (by rfl), cell_of k2 (by rfl), by decide, by decide, none, 0, none, 0, cell_of k2 (by rfl), cell_of k2 (by rfl), by decide, .inl rfl, .inl rfl⟩
    | 3, hx => injection hx with hx; subst hx; exact ⟨cell_of k2 (by rfl), cell_of k2 (by rfl), cell_of k2 (by rfl), cell_of k2 (by rfl), by decide, by decide, none, 0, none, 0, cell_of k2 (by rfl), cell_of k2 (by rfl), by decide, .inl rfl, .inl rfl⟩
    | _ + 4, hx => simp [SLA] at hx)
  clear hb1 hb2 hk1 hs1
  go_enter Try.func21, Try.ntmps21
  go_upto_region 2 with fail
  rw [← hw1]
  clear hw1
  generalize w.heap.size = xb at *
  go_wp2_with fail
  have hc := sd_order SLA (some ⟨xb + 1, 0, none⟩) 4 w1 (HS1.out _ (Keep.refl _ _))
  rw [sa1, sa2] at hc
  refine hc.mono ?_
  clear hc
  rintro r w2 ⟨pa, qa, rfl, hox, hk2⟩
  obtain ⟨go, rfl⟩ := owns_some hox (by decide)
  have HK2 := hid hk2
  have HD : Hid (∀ wy, Keep (fun _ => False) w2 wy → wy.cell? ⟨go, 0, none⟩ = some (.int .i64 3) ∧ wy.cell? ⟨go, 1, none⟩ = some (.int .i64 2) ∧ wy.cell? ⟨go, 2, none⟩ = some (.int .i64 1) ∧ wy.cell? ⟨go, 3, none⟩ = some (.int .i64 0)) := hid (fun wy hk => by
    have ho := owns_keep (w' := wy) hox (fun k hk' => hk.block k (hox.lt k hk').2 id)
    exact ⟨owns_cell (k := 0) ho (by decide), owns_cell (k := 1) ho (by decide), owns_cell (k := 2) ho (by decide), owns_cell (k := 3) ho (by decide)⟩)
  have HIP : Hid (∀ wy, Keep (fun _ => False) w2 wy → IP wy wy.heap.size (some ⟨go, 0, none⟩) [3, 2, 1, 0]) := hid (fun wy hk => by
    have ho := owns_keep (w' := wy) hox (fun k hk' => hk.block k (hox.lt k hk').2 id)
    exact IP.own (l := [3, 2, 1, 0]) rfl ho)
  clear hox hk2
  go_wp2_with fail
  have hc := sd_names SLA (some ⟨xb + 1, 0, none⟩) 4 w2 (HS1.out _ HK2.out)
  rw [sa1, sa2] at hc
  refine hc.mono ?_
  clear hc
  rintro r w3 ⟨pb, qb, rfl, hox, hk3⟩
  obtain ⟨gn, rfl⟩ := owns_some hox (by decide)
  have HK23 := hid hk3
  have HN : Hid (∀ wy, Keep (fun _ => False) w3 wy → wy.cell? ⟨gn, 0, none⟩ = some (.string ⟨#[122]⟩) ∧ wy.cell? ⟨gn, 1, none⟩ = some (.string ⟨#[98]⟩) ∧ wy.cell? ⟨gn, 2, none⟩ = some (.string ⟨#[97]⟩)) := hid (fun wy hk => by
    have ho := owns_keep (w' := wy) hox (fun k hk' => hk.block k (hox.lt k hk').2 id)
    exact ⟨owns_cell (k := 0) ho (by decide), owns_cell (k := 1) ho (by decide), owns_cell (k := 2) ho (by decide)⟩)
  clear hox hk3
  obtain ⟨w4, hw4, hb1, hb2, hb3, hs4, hk4⟩ := box3 w3 #[.string ⟨#[98]⟩] #[.string ⟨#[97]⟩] #[.string ⟨#[97]⟩, .int .i64 0, .slice (some ⟨w3.heap.size, 0, none⟩) 1 1, .int .u32 0, .int .u32 0, .slice none 0 0, .string ⟨#[98]⟩, .int .i64 0, .slice (some ⟨w3.heap.size + 1, 0, none⟩) 1 1, .int .u32 0, .int .u32 0, .slice none 0 0] 9 9 43
  have HK34 := hid hk4
  have HS4 : Hid (SP w4 w4.heap.size (some ⟨w3.heap.size + 1 + 1, 0, none⟩) SLB) := hid (by
    refine .inr ⟨_, 0, rfl, lt_of_heap hb3, fun i x hx => ?_⟩
    match i, hx with
    | 0, hx => injection hx with hx; subst hx; exact ⟨cell_of hb3 (by rfl), cell_of hb3 (by rfl), cell_of hb3 (by rfl), cell_of hb3 (by rfl), by decide, by decide, _, 1, none, 0, cell_of hb3 (by rfl), cell_of hb3 (by rfl), by decide, one_str hb1 (lt_of_heap hb1), .inl rfl⟩
    | 1, hx => injection hx with hx; subst hx; exact ⟨cell_of hb3 (by rfl), cell_of hb3 (by rfl), cell_of hb3 (by rfl), cell_of hb3 (by rfl), by decide, by decide, _, 1, none, 0, cell_of hb3 (by rfl), cell_of hb3 (by rfl), by decide, one_str hb2 (lt_of_heap hb2), .inl rfl⟩
    | _ + 2, hx => simp [SLB] at hx)
  clear hb1 hb2 hb3 hk4 hs4
  go_wp2_with fail
  rw [← hw4]
  clear hw4
  have hc := sd_order SLB (some ⟨w3.heap.size + 1 + 1, 0, none⟩) 2 w4 HS4.out
  rw [sa3] at hc
  refine hc.mono ?_
  clear hc
  rintro r w5 ⟨pc, qc, rfl, _, hk5⟩
  have HK35 := hid (HK34.out.trans hk5)
  clear hk5 HS4
  obtain ⟨w6, hw6, hb1, hb2, hs6, hk6⟩ := box2 w5 #[.string ⟨#[98]⟩] #[.string ⟨#[97]⟩, .int .i64 0, .slice (some ⟨w5.heap.size, 0, none⟩) 1 1, .int .u32 0, .int .u32 0, .slice none 0 0] 9 43
  have HK36 := hid (HK35.out.trans hk6)
  have HS6 : Hid (SP w6 w6.heap.size (some ⟨w5.heap.size + 1, 0, none⟩) SLC) := hid (by
    refine .inr ⟨_, 0, rfl, lt_of_heap hb2, fun i x hx => ?_⟩
    match i, hx with
    | 0, hx => injection hx with hx; subst hx; exact ⟨cell_of hb2 (by rfl), cell_of hb2 (by rfl), cell_of hb2 (by rfl), cell_of hb2 (by rfl), by decide, by decide, _, 1, none, 0, cell_of hb2 (by rfl), cell_of hb2 (by rfl), by decide, one_str hb1 (lt_of_heap hb1), .inl rfl⟩
    | _ + 1, hx => simp [SLC] at hx)
  clear hb1 hb2 hk6 hs6
  go_wp2_with fail
  rw [← hw6]
  clear hw6
  have hc := sd_order SLC (some ⟨w5.heap.size + 1, 0, none⟩) 1 w6 HS6.out
  rw [sa4] at hc
  refine hc.mono ?_
  clear hc
  rintro r w7 ⟨pd, qd, rfl, _, hk7⟩
  have HK37 := hid (HK36.out.trans hk7)
  clear hk7 HS6
  have HK27 := hid (HK23.out.trans HK37.out)
  obtain ⟨d0, d1, d2, d3⟩ := HD.out _ HK27.out
  obtain ⟨n0, n1, n2⟩ := HN.out _ HK37.out
  have h1 := seq_dec ⟨#[122]⟩ ⟨#[122]⟩
  have h2 := seq_dec ⟨#[98]⟩ ⟨#[98]⟩
  have h3 := seq_dec ⟨#[97]⟩ ⟨#[97]⟩
  rw [decide_eq_true rfl] at h1 h2 h3
  go_wp2_with fail
  have hc := sd_ahead SLA (some ⟨xb + 1, 0, none⟩) 4 [3, 2, 1, 0] (some ⟨go, 0, none⟩) qa ⟨#[98]⟩ ⟨#[97]⟩ w7 (by decide) (HIP.out _ HK27.out) (HS1.out _ (HK2.out.trans HK27.out))
  rw [sa5] at hc
  refine hc.mono ?_
  clear hc
  rintro r w8 ⟨rfl, hk8⟩
  have HK28 := hid (HK27.out.trans hk8)
  clear hk8
  go_wp2_with fail
  have hc := sd_ahead SLA (some ⟨xb + 1, 0, none⟩) 4 [3, 2, 1, 0] (some ⟨go, 0, none⟩) qa ⟨#[97]⟩ ⟨#[120]⟩ w8 (by decide) (HIP.out _ HK28.out) (HS1.out _ (HK2.out.trans HK28.out))
  rw [sa6] at hc
  refine hc.mono ?_
  clear hc
  rintro r w9 ⟨rfl, hk9⟩
  have HK29 := hid (HK1.out.trans (HK2.out.trans (HK28.out.trans hk9)))
  clear hk9
  go_wp2
  go_ret
  exact ⟨rfl, HK29.out⟩
end Go.Proofs.Ytcbboaoakgngkaa

namespace Go.Proofs.Wide
/-- A great number: its sign and its size's two words. -/
structure WI where
  neg : Bool
  hi : Nat
  lo : Nat
def WI.mag (x : WI) : Nat := x.hi * 18446744073709551616 + x.lo
def WI.val (x : WI) : Int := if x.neg = true then -(x.mag : Int) else (x.mag : Int)
/-- Whether a number is in form. -/
def WI.form (x : WI) : Bool := decide (x.hi < 9223372036854775808) && (!x.neg || decide (x.mag ≠ 0))
def WI.fit (x : WI) : Prop := x.hi < 18446744073709551616 ∧ x.lo < 18446744073709551616
def cmpN (a b : Nat) : Int := if b < a then 1 else if a = b then 0 else -1
def cmpI (a b : Int) : Int := if b < a then 1 else if a = b then 0 else -1
/-- Which of two numbers is greater; nought where one isn't in form. -/
def cmpW (x y : WI) : Int := if x.form = true ∧ y.form = true then cmpI x.val y.val else 0
end Go.Proofs.Wide
namespace Go.Proofs.Ytcbboaoakgngkaa
open Go.RowKit Go.Proofs.Heap Go.Proofs.Wide

abbrev WV (x : WI) : Value := .agg #[.bool x.neg, .int .u64 (x.hi : Int), .int .u64 (x.lo : Int)]
abbrev WC (x : WI) : Array Value := #[.bool x.neg, .int .u64 (x.hi : Int), .int .u64 (x.lo : Int)]

theorem wraps64 (n : Int) (h₀ : 0 ≤ n) (h₁ : n < 2 ^ 64) : IntKind.u64.wrap n = n := by
  have : IntKind.u64.wrap n = n % 18446744073709551616 := by simp [IntKind.wrap, IntKind.bits, IntKind.signed]
  omega
theorem or_zero (a b : Nat) (ha : a < 18446744073709551616) (hb : b < 18446744073709551616) : ∃ z : Nat, bits .or .u64 (a : Int) (b : Int) = (z : Int) ∧ (z = 0 ↔ a = 0 ∧ b = 0) := by
  refine ⟨a ||| b, (bits_nat .u64 64 (by decide) wraps64 a b ha hb).2, ?_⟩
  exact Nat.or_eq_zero_iff

theorem form_zero {x : WI} (h : x.form = true) (hn : x.neg = true) : x.mag ≠ 0 := by
  unfold WI.form at h
  rw [hn] at h
  simp at h
  exact h.2

end Go.Proofs.Ytcbboaoakgngkaa

namespace Go.Proofs.Ytcbboaoakgngkaa
open Go.RowKit Go.Proofs.Heap Go.Proofs.Wide

abbrev Z3 : Array Value := #[.bool false, .int .u64 0, .int .u64 0]
def normW (ng : Bool) (hi lo : Nat) : WI := ⟨ng && decide (hi * 18446744073709551616 + lo ≠ 0), hi, lo⟩

end Go.Proofs.Ytcbboaoakgngkaa

namespace Go.Proofs.Ytcbboaoakgngkaa
open Go.RowKit Go.Proofs.Heap Go.Proofs.Wide

theorem neg_form (a : Nat) (ha : 0 < a) : WI.form ⟨true, 0, a⟩ = true := by
  unfold WI.form WI.mag
  simp
  omega
theorem normW_neg (a : Nat) (ha : 0 < a) : normW true 0 a = ⟨true, 0, a⟩ := by
  unfold normW
  have : decide (0 * 18446744073709551616 + a ≠ 0) = true := decide_eq_true (by omega)
  rw [this]; rfl

end Go.Proofs.Ytcbboaoakgngkaa

namespace Go.Proofs.Ytcbboaoakgngkaa
open Go.RowKit Go.Proofs.Heap Go.Proofs.Wide

theorem pos_form (a : Nat) : WI.form ⟨false, 0, a⟩ = true := by
  unfold WI.form
  simp
/-- A kind's greatest number. -/
def greatN (k : Int) : Nat := if k = 1 then 1 else if k = 2 then 127 else if k = 3 then 32767 else if k = 4 then 2147483647 else if k = 5 then 9223372036854775807 else if k = 6 then 255 else if k = 7 then 65535 else if k = 8 then 4294967295 else 18446744073709551615

end Go.Proofs.Ytcbboaoakgngkaa

namespace Go.Proofs.Ytcbboaoakgngkaa
open Go.RowKit Go.Proofs.Heap Go.Proofs.Wide

end Go.Proofs.Ytcbboaoakgngkaa

namespace Go.Proofs.Ytcbboaoakgngkaa
open Go.RowKit Go.Proofs.Heap Go.Proofs.Wide

def leastW (k : Int) : WI := if signK k = true then ⟨true, 0, greatN k + 1⟩ else ⟨false, 0, 0⟩
def greatW (k : Int) : WI := ⟨false, 0, greatN k⟩
theorem greatN_lt (k : Int) : greatN k < 18446744073709551616 := by
  unfold greatN
  repeat' split
  all_goals decide
theorem greatN_sign {k : Int} (h : signK k = true) : 0 < greatN k ∧ greatN k + 1 < 18446744073709551616 := by
  have := of_decide_eq_true h
  have hk : k = 2 ∨ k = 3 ∨ k = 4 ∨ k = 5 := by omega
  rcases hk with rfl | rfl | rfl | rfl <;> decide
theorem greatW_fit (k : Int) : (greatW k).fit := ⟨(by decide : (0 : Nat) < 18446744073709551616), greatN_lt k⟩
theorem leastW_fit (k : Int) : (leastW k).fit := by
  unfold leastW
  cases h : signK k
  · rw [if_neg (by simp)]; exact ⟨(by decide : (0 : Nat) < 18446744073709551616), (by decide : (0 : Nat) < 18446744073709551616)⟩
  · rw [if_pos rfl]; exact ⟨(by decide : (0 : Nat) < 18446744073709551616), (greatN_sign h).2⟩
theorem greatW_form (k : Int) : (greatW k).form = true := pos_form _
theorem leastW_form (k : Int) : (leastW k).form = true := by
  unfold leastW
  cases h : signK k
  · rw [if_neg (by simp)]; exact pos_form 0
  · rw [if_pos rfl]; exact neg_form _ (by omega)

theorem field_sign (s : ByteArray) (z : Int) (g : Bool) (w : World) : (Instr.field 163 (.agg #[.string s, .int .i64 z, .bool g]) 2).run Try.prog w = .ok (.bool g) w := by kernel_rfl

/-- Whether a number fits a kind. -/
def fitsB (k : Int) (x : WI) : Bool := kindB k && (x.form && (decide (0 ≤ cmpW x (leastW k)) && decide (cmpW x (greatW k) ≤ 0)))

end Go.Proofs.Ytcbboaoakgngkaa

namespace Go.Proofs.Ytcbboaoakgngkaa
open Go.RowKit Go.Proofs.Heap Go.Proofs.Sch Go.Proofs.Wide

/-- How many elements the fields have. -/
def sumN : List Fld → Nat
  | [] => 0
  | f :: r => f.count.toNat + sumN r
theorem sumN_append (a b : List Fld) : sumN (a ++ b) = sumN a + sumN b := by
  induction a with
  | nil => simp [sumN]
  | cons x a ih => simp [sumN, ih]; omega
theorem layC_zero {fs : List Fld} (h : layC fs = 0) : fs.length ≤ 8 ∧ (∀ f ∈ fs, okF f) := by
  unfold layC at h
  by_cases h1 : 8 < fs.length
  · rw [if_pos h1] at h; omega
  · rw [if_neg h1] at h
    by_cases h2 : ∀ f ∈ fs, okF f
    · exact ⟨by omega, h2⟩
    · rw [if_neg h2] at h; omega
theorem sumN_next {fs : List Fld} {k : Nat} {f : Fld} (h : fs[k]? = some f) : sumN (fs.take (k + 1)) = sumN (fs.take k) + f.count.toNat := by
  rw [take_next h, sumN_append]; simp [sumN]
theorem sumN_le (fs : List Fld) (h : ∀ f ∈ fs, okF f) : sumN fs ≤ 8 * fs.length := by
  induction fs with
  | nil => simp [sumN]
  | cons f r ih =>
    have h1 := (h f (by simp)).2
    have h2 := ih (fun g hg => h g (by simp [hg]))
    simp only [sumN, List.length_cons]
    omega

end Go.Proofs.Ytcbboaoakgngkaa

namespace Go.Proofs.Sch
open Go.RowKit Go.Proofs.Heap Go.Proofs.Wide
def IntAt (w : World) (b o : Nat) (x : WI) : Prop := w.cell? ⟨b, o, none⟩ = some (.bool x.neg) ∧ w.cell? ⟨b, o + 1, none⟩ = some (.int .u64 (x.hi : Int)) ∧ w.cell? ⟨b, o + 2, none⟩ = some (.int .u64 (x.lo : Int))
abbrev XP := RowP 3 IntAt
theorem XP.low {w w' : World} {B : Nat} {p : Option Addr} {l : List WI} (h : XP w B p l) (hl : Low B w w') : XP w' B p l :=
  RowP.imp h (Nat.le_refl _) fun b o x hb hx => ⟨by rw [hl.cell hb]; exact hx.1, by rw [hl.cell hb]; exact hx.2.1, by rw [hl.cell hb]; exact hx.2.2⟩
theorem XP.mono {w : World} {B B' : Nat} {p : Option Addr} {l : List WI} (h : XP w B p l) (hB : B ≤ B') : XP w B' p l := RowP.imp h hB fun _ _ _ _ hx => hx
theorem XP.at {w : World} {B : Nat} {p : Option Addr} {l : List WI} (h : XP w B p l) {i : Nat} {f : WI} (hi : l[i]? = some f) : ∃ b off, p = some ⟨b, off, none⟩ ∧ b < B ∧ w.cell? ⟨b, off + i * 3, none⟩ = some (.bool f.neg) ∧ w.cell? ⟨b, off + i * 3 + 1, none⟩ = some (.int .u64 (f.hi : Int)) ∧ w.cell? ⟨b, off + i * 3 + 2, none⟩ = some (.int .u64 (f.lo : Int)) := by
  rcases h with rfl | ⟨b, off, hp, hb, hc⟩
  · simp at hi
  · obtain ⟨h1, h2, h3⟩ := hc i f hi
    exact ⟨b, off, hp, hb, h1, h2, h3⟩
/-- The rest of a row. -/
theorem XP.drop {w : World} {B b off : Nat} {l : List WI} (h : XP w B (some ⟨b, off, none⟩) l) (n : Nat) : XP w B (some ⟨b, off + n * 3, none⟩) (l.drop n) := by
  rcases h with rfl | ⟨b', off', hp, hb, hc⟩
  · exact .inl (by simp)
  · injection hp with hp
    injection hp with h1 h2
    subst h1; subst h2
    refine .inr ⟨_, _, rfl, hb, fun i x hx => ?_⟩
    rw [List.getElem?_drop] at hx
    have := hc (n + i) x hx
    rwa [show off + (n + i) * 3 = off + n * 3 + i * 3 by omega] at this
end Go.Proofs.Sch
namespace Go.Proofs.Ytcbboaoakgngkaa
open Go.RowKit Go.Proofs.Heap Go.Proofs.Sch Go.Proofs.Wide

/-- Whether all numbers fit their fields' kinds. -/
def fitRun : List Fld → List WI → Bool
  | [], _ => true
  | f :: r, vs => (vs.take f.count.toNat).all (fitsB f.kind) && fitRun r (vs.drop f.count.toNat)
/-- The error of a value. -/
def fitC (fs : List Fld) (vs : List WI) : Nat := if layC fs = 0 then (if vs.length = sumN fs then (if fitRun fs vs = true then 0 else 3) else 4) else layC fs

end Go.Proofs.Ytcbboaoakgngkaa

namespace Go.Proofs.Ytcbboaoakgngkaa
open Go.RowKit Go.Proofs.Heap Go.Proofs.Sch

/-- An element's cells. -/
def ecl (e : Int × Nat) : List Value := [.int .i64 e.1, iV e.2]
/-- The elements of a field that begins at a. -/
def eAdd (k : Int) (a sz n : Nat) : List (Int × Nat) := (List.range n).map (fun j => (k, a + sz * j))
def eStep (st : Nat × List (Int × Nat)) (f : Fld) : Nat × List (Int × Nat) := (upN st.1 (szN f.kind) + szN f.kind * f.count.toNat, st.2 ++ eAdd f.kind (upN st.1 (szN f.kind)) (szN f.kind) f.count.toNat)
/-- All elements of fields. -/
def eRun (fs : List Fld) : List (Int × Nat) := (fs.foldl eStep (0, [])).2

theorem eAdd_zero (k : Int) (a sz : Nat) : eAdd k a sz 0 = [] := rfl
theorem eAdd_next (k : Int) (a sz n : Nat) : eAdd k a sz (n + 1) = eAdd k a sz n ++ [(k, a + sz * n)] := by
  unfold eAdd; rw [List.range_succ, List.map_append]; rfl
theorem eAdd_len (k : Int) (a sz n : Nat) : (eAdd k a sz n).length = n := by simp [eAdd]
theorem eFold_at : ∀ (fs : List Fld) (a g : Nat) (es : List (Int × Nat)) (ss : List Nat), (fs.foldl eStep (a, es)).1 = (fs.foldl pStep (a, g, ss)).1
  | [], _, _, _, _ => rfl
  | f :: r, a, g, es, ss => by
    rw [List.foldl_cons, List.foldl_cons]
    exact eFold_at r _ _ _ _
theorem eRun_next {fs : List Fld} {k : Nat} {f : Fld} (h : fs[k]? = some f) : eRun (fs.take (k + 1)) = eRun (fs.take k) ++ eAdd f.kind (upN (pRun (fs.take k)).1 (szN f.kind)) (szN f.kind) f.count.toNat := by
  unfold eRun pRun
  rw [take_next h, List.foldl_append, List.foldl_cons, List.foldl_nil]
  unfold eStep
  rw [← eFold_at (fs.take k) 0 1 [] []]
  rfl
theorem eRun_len : ∀ (fs : List Fld), (eRun fs).length = sumN fs := by
  have key : ∀ (fs : List Fld) (st : Nat × List (Int × Nat)), (fs.foldl eStep st).2.length = st.2.length + sumN fs := by
    intro fs
    induction fs with
    | nil => intro st; simp [sumN]
    | cons f r ih =>
      intro st
      rw [List.foldl_cons, ih]
      simp only [eStep, List.length_append, eAdd_len, sumN]
      omega
  intro fs
  have := key fs (0, [])
  simpa [eRun] using this

/-- The multiple that is met first. -/
theorem upN_meet {a s x : Nat} (hs : 1 ≤ s) (h1 : a ≤ x) (h2 : x ≤ upN a s) (h3 : x % s = 0) : x = upN a s := by
  have hd := Nat.div_add_mod (a + s - 1) s
  have hm := Nat.mod_lt (a + s - 1) (show 0 < s by omega)
  have hx := Nat.div_add_mod x s
  have e : upN a s = s * ((a + s - 1) / s) := by unfold upN; rw [Nat.mul_comm]
  rw [e] at h2 ⊢
  rw [h3] at hx
  generalize (a + s - 1) / s = q at *
  generalize x / s = t at *
  have h4 : s * t < s * q + s → t < q + 1 := fun h => Nat.lt_of_mul_lt_mul_left (a := s) (by rw [Nat.mul_add]; omega)
  have h5 : s * q < s * t + s → q < t + 1 := fun h => Nat.lt_of_mul_lt_mul_left (a := s) (by rw [Nat.mul_add]; omega)
  have : t = q := by
    have h6 := h4 (by omega)
    have h7 := h5 (by omega)
    omega
  subst this
  omega
theorem upN_dvd (a s : Nat) : upN a s % s = 0 := by unfold upN; exact Nat.mul_mod_left ..
theorem upN_ge {a s : Nat} (hs : 1 ≤ s) : a ≤ upN a s := by
  have hd := Nat.div_add_mod (a + s - 1) s
  have hm := Nat.mod_lt (a + s - 1) (show 0 < s by omega)
  unfold upN
  rw [Nat.mul_comm]
  omega

/-- The reference's two rows under way: the elements, where fields begin. -/
structure LY (w : World) (v6 v7 : Value) (es : List (Int × Nat)) (ss : List Nat) (y : World) : Prop where
  keep : Keep (fun _ => False) w y
  o6 : y.ownsRow w.heap.size 139 2 v6 es.length (es.flatMap ecl)
  o7 : y.ownsRow w.heap.size 3 1 v7 ss.length (ss.map iV)
  dis : ∀ g, v6.ownBlock = some g → v7.ownBlock = some g → False
/-- A field's box beside them. -/
structure LB (v6 v7 : Value) (bx : Nat) (f : Fld) (y : World) : Prop where
  box : y.heap[bx]? = some (.cells #[.string f.name, .int .i64 f.kind, .int .i64 f.count] 69 (0, 0))
  n6 : v6.ownBlock ≠ some bx
  n7 : v7.ownBlock ≠ some bx

section
variable {w y y' : World} {v6 v7 v' : Value} {es : List (Int × Nat)} {ss : List Nat} {bx : Nat} {f : Fld}
theorem LY.keep0 (h : LY w v6 v7 es ss y) (hk : Keep (fun _ => False) y y') : LY w v6 v7 es ss y' :=
  ⟨h.keep.trans hk, owns_keep h.o6 (fun q hq => hk.block q (h.o6.lt q hq).2 id), owns_keep h.o7 (fun q hq => hk.block q (h.o7.lt q hq).2 id), h.dis⟩
theorem LB.keep0 (h : LB v6 v7 bx f y) (hk : Keep (fun _ => False) y y') : LB v6 v7 bx f y' := ⟨hk.get h.box id, h.n6, h.n7⟩
theorem LY.newBox (h : LY w v6 v7 es ss y) (f : Fld) : LB v6 v7 y.heap.size f (y.alloc (.cells #[.string f.name, .int .i64 f.kind, .int .i64 f.count] 69)) :=
  ⟨heap_alloc_new y _, fun e => by have := (h.o6.lt _ e).2; omega, fun e => by have := (h.o7.lt _ e).2; omega⟩
theorem LY.app6 (h : LY w v6 v7 es ss y) (hb : LB v6 v7 bx f y) {e : Int × Nat} (hown : y'.ownsRow w.heap.size 139 2 v' (es.length + 1) (es.flatMap ecl ++ ecl e)) (hg : y.grownBy y' v6.ownBlock) (ha : v'.ownBlock = v6.ownBlock ∨ v'.ownBlock = some y.heap.size) :
    LY w v' v7 (es ++ [e]) ss y' ∧ LB v' v7 bx f y' := by
  have hk : Keep (fun q => v6.ownBlock = some q) y y' := (Keep.refl _ y).grown hg (fun k hk => .inr hk)
  refine ⟨⟨h.keep.trans' hk (fun i hi e => by have := (h.o6.lt _ e).1; omega), by simpa using hown, owns_keep h.o7 (fun q hq => hk.block q (h.o7.lt q hq).2 (fun e => h.dis q e hq)), fun g h1 h2 => ?_⟩, hk.get hb.box hb.n6, fun e => ?_, hb.n7⟩
  · rcases ha with ha | ha
    · exact h.dis g (ha ▸ h1) h2
    · rw [ha] at h1
      injection h1 with h1
      have := (h.o7.lt g h2).2
      omega
  · rcases ha with ha | ha
    · exact hb.n6 (ha ▸ e)
    · rw [ha] at e
      injection e with e
      have := lt_of_heap hb.box
      omega
theorem LY.app7 (h : LY w v6 v7 es ss y) (hb : LB v6 v7 bx f y) {a : Nat} (hown : y'.ownsRow w.heap.size 3 1 v' (ss.length + 1) (ss.map iV ++ [iV a])) (hg : y.grownBy y' v7.ownBlock) (ha : v'.ownBlock = v7.ownBlock ∨ v'.ownBlock = some y.heap.size) :
    LY w v6 v' es (ss ++ [a]) y' ∧ LB v6 v' bx f y' := by
  have hk : Keep (fun q => v7.ownBlock = some q) y y' := (Keep.refl _ y).grown hg (fun k hk => .inr hk)
  refine ⟨⟨h.keep.trans' hk (fun i hi e => by have := (h.o7.lt _ e).1; omega), owns_keep h.o6 (fun q hq => hk.block q (h.o6.lt q hq).2 (fun e => h.dis q hq e)), by simpa using hown, fun g h1 h2 => ?_⟩, hk.get hb.box hb.n7, hb.n6, fun e => ?_⟩
  · rcases ha with ha | ha
    · exact h.dis g h1 (ha ▸ h2)
    · rw [ha] at h2
      injection h2 with h2
      have := (h.o6.lt g h1).2
      omega
  · rcases ha with ha | ha
    · exact hb.n7 (ha ▸ e)
    · rw [ha] at e
      injection e with e
      have := lt_of_heap hb.box
      omega
/-- A block more for what is appended. -/
theorem Keep.grown_alloc {w y y' : World} {o : Obj} {row : Option Nat} (hg : (y.alloc o).grownBy y' row) (hr : ∀ k, row = some k → w.heap.size ≤ k) (hk : Keep (fun _ => False) w y) : Keep (fun _ => False) w y' :=
  (hk.alloc o).grown hg (fun k h => .inl (hr k h))
end
theorem info_elem : (Try.prog.info? 139).map (fun i => (i.zero, i.size, i.bytes)) = some (some (.agg #[.int .i64 0, .int .i64 0]), 2, 16) := by kernel_rfl
end Go.Proofs.Ytcbboaoakgngkaa

namespace Go.Proofs.Ytcbboaoakgngkaa
open Go.RowKit Go.Proofs.Heap

theorem sizeK_out {k : Int} (h : k < 1 ∨ 10 < k) : sizeK k = 0 := by
  unfold sizeK
  rw [if_neg (by omega), if_neg (by omega), if_neg (by omega), if_neg (by omega)]

abbrev NB : Array Value := #[.int .i64 0, .int .i64 1, .int .i64 1, .int .i64 2, .int .i64 4, .int .i64 8, .int .i64 1, .int .i64 2, .int .i64 4, .int .i64 8, .int .i64 8]

set_option maxRecDepth 20000 in
set_option maxHeartbeats 2000000 in
theorem r_bytes (k : Int) (w : World) : Calls Try.prog 82 #[.int .i64 k] w fun r w' => r = .returned (.int .i64 (sizeK k)) ∧ Keep (fun _ => False) w w' := by
  go_enter Try.func82, Try.ntmps82
  by_cases h1 : k < 1
  · have g1 : decide (k < 1) = true := decide_eq_true h1
    have G := hid (sizeK_out (.inl h1))
    clear h1
    go_wp2
    go_ret
    exact ⟨by rw [G.out]; rfl, Keep.refl _ _⟩
  have g1 : decide (k < 1) = false := decide_eq_false h1
  by_cases h2 : 10 < k
  · have g2 : decide (10 < k) = true := decide_eq_true h2
    have G := hid (sizeK_out (.inr h2))
    clear h1 h2
    go_wp2
    go_ret
    exact ⟨by rw [G.out]; rfl, Keep.refl _ _⟩
  have g2 : decide (10 < k) = false := decide_eq_false h2
  have hb := heap_alloc_new w (.cells NB 155)
  have HK := hid ((Keep.refl (fun _ => False) w).alloc (.cells NB 155))
  have HB := hid hb
  clear hb
  have hc : k = 1 ∨ k = 2 ∨ k = 3 ∨ k = 4 ∨ k = 5 ∨ k = 6 ∨ k = 7 ∨ k = 8 ∨ k = 9 ∨ k = 10 := by omega
  clear h1 h2
  go_upto_region 4 with fail
  generalize w.alloc (.cells NB 155) = w1 at *
  generalize w.heap.size = b at *
  clear g1 g2
  rcases hc with rfl | rfl | rfl | rfl | rfl | rfl | rfl | rfl | rfl | rfl
  · have c : w1.cell? ⟨b, 1, none⟩ = some (.int .i64 1) := cell_of HB.out (by rfl)
    go_wp2
    go_ret
    exact ⟨by rfl, HK.out⟩
  · have c : w1.cell? ⟨b, 2, none⟩ = some (.int .i64 1) := cell_of HB.out (by rfl)
    go_wp2
    go_ret
    exact ⟨by rfl, HK.out⟩
  · have c : w1.cell? ⟨b, 3, none⟩ = some (.int .i64 2) := cell_of HB.out (by rfl)
    go_wp2
    go_ret
    exact ⟨by rfl, HK.out⟩
  · have c : w1.cell? ⟨b, 4, none⟩ = some (.int .i64 4) := cell_of HB.out (by rfl)
    go_wp2
    go_ret
    exact ⟨by rfl, HK.out⟩
  · have c : w1.cell? ⟨b, 5, none⟩ = some (.int .i64 8) := cell_of HB.out (by rfl)
    go_wp2
    go_ret
    exact ⟨by rfl, HK.out⟩
  · have c : w1.cell? ⟨b, 6, none⟩ = some (.int .i64 1) := cell_of HB.out (by rfl)
    go_wp2
    go_ret
    exact ⟨by rfl, HK.out⟩
  · have c : w1.cell? ⟨b, 7, none⟩ = some (.int .i64 2) := cell_of HB.out (by rfl)
    go_wp2
    go_ret
    exact ⟨by rfl, HK.out⟩
  · have c : w1.cell? ⟨b, 8, none⟩ = some (.int .i64 4) := cell_of HB.out (by rfl)
    go_wp2
    go_ret
    exact ⟨by rfl, HK.out⟩
  · have c : w1.cell? ⟨b, 9, none⟩ = some (.int .i64 8) := cell_of HB.out (by rfl)
    go_wp2
    go_ret
    exact ⟨by rfl, HK.out⟩
  · have c : w1.cell? ⟨b, 10, none⟩ = some (.int .i64 8) := cell_of HB.out (by rfl)
    go_wp2
    go_ret
    exact ⟨by rfl, HK.out⟩
end Go.Proofs.Ytcbboaoakgngkaa

namespace Go.Proofs.Ytcbboaoakgngkaa
open Go.RowKit Go.Proofs.Heap Go.Proofs.Sch

theorem results_t4 {fn : Func} {p u q v : Tmp} (h : fn.results = #[.tmp p, .tmp u, .tmp q, .tmp v]) (tmps : Array Value) {P : Program} {w : World} : (results fn tmps).run P w = .ok (.tuple #[tmps.getD p undef, tmps.getD u undef, tmps.getD q undef, tmps.getD v undef]) w := by
  simp [results, h]

/-- What Lay answers: nothing and the error, or the elements, the row's size, where fields begin. -/
def LayR (w : World) (fs : List Fld) (r : Ending) (w' : World) : Prop :=
  (layC fs ≠ 0 ∧ r = .returned (.tuple #[.slice none 0 0, .int .i64 0, .slice none 0 0, iV (layC fs)])) ∨
  (layC fs = 0 ∧ ∃ p c q d, r = .returned (.tuple #[.slice p (eRun fs).length c, iV (pSize fs), .slice q (pRun fs).2.2.length d, iV 0]) ∧ LY w (.slice p (eRun fs).length c) (.slice q (pRun fs).2.2.length d) (eRun fs) (pRun fs).2.2 w')

theorem lay_bad {fs : List Fld} {f : Fld} (hf : f ∈ fs) (h : ¬ okF f) : layC fs = 1 := by
  unfold layC
  by_cases h1 : 8 < fs.length
  · rw [if_pos h1]
  · rw [if_neg h1, if_neg (fun hh => h (hh f hf))]
theorem lay_long {fs : List Fld} (h : 8 < fs.length) : layC fs = 1 := by unfold layC; rw [if_pos h]
theorem lay_big {fs : List Fld} (h1 : ¬ 8 < fs.length) (h2 : ∀ f ∈ fs, okF f) (h3 : 256 < pSize fs) : layC fs = 5 := by unfold layC; rw [if_neg h1, if_pos h2, if_pos h3]
theorem lay_good {fs : List Fld} (h1 : ¬ 8 < fs.length) (h2 : ∀ f ∈ fs, okF f) (h3 : ¬ 256 < pSize fs) : layC fs = 0 := by unfold layC; rw [if_neg h1, if_pos h2, if_neg h3]

set_option maxRecDepth 20000 in
set_option maxHeartbeats 8000000 in
theorem r_lay (fs : List Fld) (p : Option Addr) (cap : Nat) (w : World) (hf : FP w w.heap.size p fs) :
    Calls Try.prog 59 #[.slice p fs.length cap] w fun r w' => LayR w fs r w' ∧ Keep (fun _ => False) w w' := by
  obtain ⟨i0, hi0, hz0, hz1, hz2⟩ := info_parts' info_int
  obtain ⟨i1, hi1, hy0, hy1, hy2⟩ := info_parts' info_elem
  have HF := hid hf
  clear hf
  go_enter Try.func59, Try.ntmps59
  by_cases hl : 8 < fs.length
  · have g1 : decide ((8 : Int) < (fs.length : Int)) = true := decide_eq_true (by omega)
    have g2 : decide (8 < fs.length) = true := decide_eq_true hl
    have G := hid (lay_long hl)
    clear hl
    go_wp2
    (try simp only [Exit.inBlock, Exit.then])
    refine bodyPost_ret (results_t4 rfl _) rfl ?_
    exact ⟨.inl ⟨by rw [G.out]; decide, by rw [G.out]; rfl⟩, Keep.refl _ _⟩
  have g1 : decide ((8 : Int) < (fs.length : Int)) = false := decide_eq_false (by omega)
  have g2 : decide (8 < fs.length) = false := decide_eq_false hl
  have HL := hid hl
  have hL8 : fs.length ≤ 8 := by omega
  clear hl
  have hY0 : LY w (.slice (some ⟨w.heap.size, 0, none⟩) 0 0) (.slice (some ⟨w.heap.size + 1, 0, none⟩) 0 0) [] [] ((w.alloc (.cells #[] 139)).alloc (.cells #[] 3)) := by
    have hs : (w.alloc (.cells #[] 139)).heap.size = w.heap.size + 1 := by simp
    have hb6 := ((Keep.refl (fun _ => False) (w.alloc (.cells #[] 139))).alloc (.cells #[] 3)).get (heap_alloc_new w _) id
    have hb7 := heap_alloc_new (w.alloc (.cells #[] 139)) (.cells #[] 3)
    rw [hs] at hb7
    exact ⟨((Keep.refl _ w).alloc _).alloc _, ⟨rfl, .inr ⟨w.heap.size, 0, #[], rfl, Nat.le_refl _, hb6, Nat.le_refl _, by unfold maxLen; omega, rfl, rfl⟩⟩, ⟨rfl, .inr ⟨w.heap.size + 1, 0, #[], rfl, by omega, hb7, Nat.le_refl _, by unfold maxLen; omega, rfl, rfl⟩⟩, fun g h1 h2 => by simp [Value.ownBlock] at h1 h2; omega⟩
  have HY0 := hid hY0
  clear hY0
  go_wp2_with fail
  clear g1 g2
  go_loopw [6, 7, 8, 9, 10, 11, 12, 13] (fun o s a g i _ _ _ wr => ∃ k : Nat, k ≤ fs.length ∧ i = iV k ∧ a = iV (pRun (fs.take k)).1 ∧ g = iV (pRun (fs.take k)).2.1 ∧ ((pRun (fs.take k)).1 ≤ 71 * k ∧ 1 ≤ (pRun (fs.take k)).2.1 ∧ (pRun (fs.take k)).2.1 ≤ 8) ∧ ((pRun (fs.take k)).2.2.length = k ∧ (eRun (fs.take k)).length ≤ 8 * k) ∧ (∀ f ∈ fs.take k, okF f) ∧ LY w o s (eRun (fs.take k)) (pRun (fs.take k)).2.2 wr) (fun _ _ _ _ i _ _ _ _ => fs.length + 1 - (intOf i).toNat)
  case atStart => exact ⟨0, Nat.zero_le _, rfl, rfl, rfl, ⟨by simp [pRun], by simp [pRun], by simp [pRun]⟩, ⟨by simp [pRun], by simp [eRun]⟩, by simp, HY0.out⟩
  case round =>
    clear HY0
    obtain ⟨k, hk, rfl, rfl, rfl, ⟨hb1, hb2, hb3⟩, ⟨hln, hle8⟩, hall, hY⟩ := hrel
    obtain ⟨op, oc, rfl⟩ := owns_val hY.o6
    obtain ⟨sp, sc, rfl⟩ := owns_val hY.o7
    have HY := hid hY; have HLN := hid hln; have HLE := hid hle8; have HALL := hid hall
    clear hY hln hle8 hall
    by_cases hlt : k < fs.length
    · obtain ⟨f, hfk⟩ : ∃ f, fs[k]? = some f := ⟨fs[k], by simp [hlt]⟩
      have HBAD := hid (fun h => lay_bad (List.mem_of_getElem? hfk) h : ¬ okF f → layC fs = 1)
      have HNX := hid (pRun_next hfk)
      have HEX := hid (eRun_next hfk)
      have HNA : Hid (okF f → ∀ d ∈ fs.take (k + 1), okF d) := hid (fun hc d hd => by
        rw [take_next hfk] at hd
        rcases List.mem_append.1 hd with h | h
        · exact HALL.out d h
        · rw [List.mem_singleton.1 h]; exact hc)
      have HSL : Hid (okF f → (pStep (pRun (fs.take k)) f).1 ≤ 71 * k + 71 ∧ (1 ≤ (pStep (pRun (fs.take k)) f).2.1 ∧ (pStep (pRun (fs.take k)) f).2.1 ≤ 8)) := hid (fun hok => pStep_le (m := 71 * k) hb1 ⟨hb2, hb3⟩ hok)
      have hfp := FP.low HF.out (Low.of_keep HY.out.keep (Nat.le_refl _) (fun _ h => h.elim))
      obtain ⟨b, off, rfl, hb, c0, c1, c2⟩ := FP.at hfp hfk
      have hin : (0 : Int) ≤ (k : Int) ∧ (k : Int) < (fs.length : Int) := ⟨by omega, by omega⟩
      obtain ⟨nm, kd, ct⟩ := f
      simp only at c0 c1 c2
      have HB0 := hid (HY.out.newBox ⟨nm, kd, ct⟩)
      have HY1 := hid (HY.out.keep0 ((Keep.refl (fun _ => False) wr).alloc (.cells #[.string nm, .int .i64 kd, .int .i64 ct] 69)))
      have hs8 := sz_le kd
      clear hfk hfp
      go_upto_region 11 with fail
      simp only at HB0
      generalize wr.alloc (.cells #[.string nm, .int .i64 kd, .int .i64 ct] 69) = w1 at *
      generalize wr.heap.size = bx at *
      clear c0 c1 c2 hb HY
      have d1 : w1.cell? ⟨bx, 1, none⟩ = some (.int .i64 kd) := cell_of HB0.out.box (by rfl)
      go_wp2_with fail
      refine (r_bytes kd _).mono ?_
      rintro r w2 ⟨rfl, hk2⟩
      have HY2 := hid (HY1.out.keep0 hk2)
      have HB2 := hid (HB0.out.keep0 hk2)
      rw [sz_cast]
      clear hk2 d1 HY1 HB0
      have HOK : Hid (okF ⟨nm, kd, ct⟩ ↔ (1 ≤ szN kd ∧ 1 ≤ ct ∧ ct ≤ 8)) := hid Iff.rfl
      have d2 : w2.cell? ⟨bx, 2, none⟩ = some (.int .i64 ct) := cell_of HB2.out.box (by rfl)
      by_cases hz : szN kd = 0
      · have g1 : ((szN kd : Int) == 0) = true := beq_iff_eq.2 (by omega)
        have g2 : (szN kd == 0) = true := beq_iff_eq.2 hz
        have G := hid (HBAD.out (fun h => by have := HOK.out.1 h; omega))
        clear hz
        generalize szN kd = n at *
        go_wp2
        (try simp only [Exit.inBlock, Exit.then])
        refine bodyPost_ret (results_t4 rfl _) rfl ?_
        exact ⟨.inl ⟨by rw [G.out]; decide, by rw [G.out]; rfl⟩, HY2.out.keep⟩
      have hn1 : 1 ≤ szN kd := by omega
      generalize hsz : szN kd = n at *
      have g1 : ((n : Int) == 0) = false := beq_eq_false_iff_ne.2 (by omega)
      have g2 : (n == 0) = false := beq_eq_false_iff_ne.2 hz
      by_cases hc1 : ct < 1
      · have g3 : decide (ct < 1) = true := decide_eq_true hc1
        have G := hid (HBAD.out (fun h => by have := HOK.out.1 h; omega))
        clear hc1
        go_wp2
        (try simp only [Exit.inBlock, Exit.then])
        refine bodyPost_ret (results_t4 rfl _) rfl ?_
        exact ⟨.inl ⟨by rw [G.out]; decide, by rw [G.out]; rfl⟩, HY2.out.keep⟩
      have g3 : decide (ct < 1) = false := decide_eq_false hc1
      by_cases hc8 : 8 < ct
      · have g4 : decide (8 < ct) = true := decide_eq_true hc8
        have G := hid (HBAD.out (fun h => by have := HOK.out.1 h; omega))
        clear hc8
        go_wp2
        (try simp only [Exit.inBlock, Exit.then])
        refine bodyPost_ret (results_t4 rfl _) rfl ?_
        exact ⟨.inl ⟨by rw [G.out]; decide, by rw [G.out]; rfl⟩, HY2.out.keep⟩
      have g4 : decide (8 < ct) = false := decide_eq_false hc8
      obtain ⟨cn, rfl⟩ := Int.eq_ofNat_of_zero_le (a := ct) (by omega)
      have hcn : 1 ≤ cn ∧ cn ≤ 8 := by omega
      have HG := hid (HOK.out.2 ⟨hn1, by omega, by omega⟩)
      have HG1 := hid (HNA.out HG.out)
      have HSTEP : Hid (pStep (pRun (fs.take k)) ⟨nm, kd, (cn : Int)⟩ = (upN (pRun (fs.take k)).1 n + n * cn, max (pRun (fs.take k)).2.1 n, (pRun (fs.take k)).2.2 ++ [upN (pRun (fs.take k)).1 n])) := hid (by rw [← hsz]; rfl)
      have HES : Hid (eRun (fs.take (k + 1)) = eRun (fs.take k) ++ eAdd kd (upN (pRun (fs.take k)).1 n) n cn) := hid (by rw [HEX.out]; rfl)
      have HSL1 := hid (HSL.out HG.out)
      clear HNA HBAD HOK HEX HSL hz hc1 hc8
      generalize eRun (fs.take k) = es at *
      generalize pRun (fs.take k) = st at *
      obtain ⟨at_, gr, ss⟩ := st
      simp only at hb1 hb2 hb3 HSTEP HLN HY2 HLE
      have hup := up_le at_ n hn1
      have hge := upN_ge (a := at_) hn1
      go_upto_if 46 with fail
      clear g1 g2 g3 g4 d2
      go_cut [9] from 19 to 73 (fun g wx => g = iV (max gr n) ∧ w2 = wx)
      case first =>
        by_cases hgn : gr < n
        · have g1 : decide ((gr : Int) < (n : Int)) = true := decide_eq_true (by omega)
          have g2 : decide (gr < n) = true := decide_eq_true hgn
          have G := hid (Nat.max_eq_right (Nat.le_of_lt hgn))
          go_wp2
          go_meet
          case rel => exact ⟨by rw [G.out], rfl⟩
        · have g1 : decide ((gr : Int) < (n : Int)) = false := decide_eq_false (by omega)
          have g2 : decide (gr < n) = false := decide_eq_false hgn
          have G := hid (Nat.max_eq_left (Nat.le_of_not_lt hgn))
          go_wp2
          go_meet
          case rel => exact ⟨by rw [G.out], rfl⟩
      case rest =>
      obtain ⟨rfl, rfl⟩ := hcut
      generalize hmx : max gr n = mg at *
      go_wp2_with fail
      have HGE := hid hge
      go_loopw [8] (fun a wy => ∃ x : Nat, a = iV x ∧ at_ ≤ x ∧ x ≤ upN at_ n ∧ w2 = wy) (fun a _ => upN at_ n + 1 - (intOf a).toNat)
      case atStart => exact ⟨at_, rfl, Nat.le_refl _, HGE.out, rfl⟩
      case round =>
        obtain ⟨x, rfl, hx1, hx2, rfl⟩ := hrel
        have hzz : ((n : Int) == 0) = false := beq_eq_false_iff_ne.2 (by omega)
        have hmo : ((x : Int).tmod (n : Int)) = ((x % n : Nat) : Int) := by rw [Int.tmod_eq_emod_of_nonneg (by omega)]; exact (Int.natCast_emod x n).symm
        have hml : x % n < n := Nat.mod_lt _ (by omega)
        by_cases hxm : x % n = 0
        · have HXE := hid (upN_meet hn1 hx1 hx2 hxm)
          rw [hxm] at hmo
          clear hxm hml hge
          have hxle : x ≤ at_ + 8 := by omega
          have HXU := hid hxle
          have HYA := hid (HY2.out.keep0 ((Keep.refl (fun _ => False) w2).alloc (.cells #[iV x] 3)))
          have HBA := hid (HB2.out.keep0 ((Keep.refl (fun _ => False) w2).alloc (.cells #[iV x] 3)))
          have HSW := hid HY2.out.keep.size
          go_wp2_with (at_builtin; go_loud (refine wpList_append_rd rfl (.tmp 54) (.tmp 56) _ rfl w.heap.size _ i0 _ 1 8 Try.underlying24 hi0 hz0 hz1 hz2 rfl (by decide) _ ss.length _ (by rfl) (HY2.out.o7.alloc _) _ 1 [iV x] (by rfl) (rd_block (heap_alloc_new w2 _) (by simp) (by simp [Value.oneCell'])) (by unfold maxLen; have h7 : ss.length = k := HLN.out; omega) (by have h7 : ss.length = k := HLN.out; omega) (by have := HSW.out; simp; omega) ?_); go_loud (intro v' w5 hown5 hgrow5 hat5 hn5; obtain ⟨vp, vc, rfl⟩ := owns_val hown5; have hap := HYA.out.app7 HBA.out hown5 hgrow5 hat5; have HY5 := hid hap.1; have HB5 := hid hap.2; clear hown5 hgrow5 hat5 hn5 hap))
          have hcl : (cn : Int) = (cn : Int) := rfl
          clear hcl HY2 HB2 HYA HBA
          go_loopw [6, 8, 13] (fun o a i wy => ∃ (j av : Nat), j ≤ cn ∧ i = iV j ∧ a = iV av ∧ av = x + n * j ∧ LY w o (.slice vp (ss.length + 1) vc) (es ++ eAdd kd x n j) (ss ++ [x]) wy ∧ LB o (.slice vp (ss.length + 1) vc) bx ⟨nm, kd, (cn : Int)⟩ wy) (fun _ _ i _ => cn + 1 - (intOf i).toNat)
          case atStart => exact ⟨0, x, Nat.zero_le _, rfl, rfl, by simp, by rw [eAdd_zero, List.append_nil]; exact HY5.out, HB5.out⟩
          case round =>
            clear HY5 HB5
            obtain ⟨j, av, hj, rfl, rfl, hav, hY6, hB6⟩ := hrel
            obtain ⟨op6, oc6, rfl⟩ := owns_val hY6.o6
            have HY6 := hid hY6; have HB6 := hid hB6
            have hnj : n * j ≤ 64 := mul_le8 (by omega) (by omega)
            have hav2 : av ≤ at_ + 72 := by have := HXU.out; omega
            have HAV := hid hav
            have d1 : wr.cell? ⟨bx, 1, none⟩ = some (.int .i64 kd) := cell_of hB6.box (by rfl)
            have d2 : wr.cell? ⟨bx, 2, none⟩ = some (.int .i64 (cn : Int)) := cell_of hB6.box (by rfl)
            have HEL : Hid ((es ++ eAdd kd x n j).length ≤ 8 * k + 8) := hid (by have := HLE.out; rw [List.length_append, eAdd_len]; omega)
            have HSW6 := hid hY6.keep.size
            clear hY6 hB6 hav hnj
            by_cases hjt : j < cn
            · have HYA := hid (HY6.out.keep0 ((Keep.refl (fun _ => False) wr).alloc (.cells #[.int .i64 kd, iV av] 139)))
              have HBA := hid (HB6.out.keep0 ((Keep.refl (fun _ => False) wr).alloc (.cells #[.int .i64 kd, iV av] 139)))
              go_wp2_with (at_builtin; go_loud (refine wpList_append_rd rfl (.tmp 64) (.tmp 69) _ rfl w.heap.size _ i1 _ 2 16 Try.underlying110 hi1 hy0 hy1 hy2 rfl (by decide) _ (es ++ eAdd kd x n j).length _ (by rfl) (HY6.out.o6.alloc _) _ 1 [.int .i64 kd, iV av] (by rfl) (rd_block (heap_alloc_new wr _) (by simp) (by simp [Value.oneCell'])) (by unfold maxLen; have h7 := HEL.out; omega) (by have h7 := HEL.out; omega) (by have := HSW6.out; simp; omega) ?_); go_loud (intro v' w5 hown5 hgrow5 hat5 hn5; obtain ⟨vq, vd, rfl⟩ := owns_val hown5; have hap := HYA.out.app6 HBA.out (e := (kd, av)) hown5 hgrow5 hat5; have HY7 := hid hap.1; have HB7 := hid hap.2; clear hown5 hgrow5 hat5 hn5 hap))
              go_wp2
              go_roundw
              case rel => exact ⟨j + 1, av + n, by omega, by go_num, by go_num, by rw [Nat.mul_succ]; have := HAV.out; omega, by have h := HY7.out; rw [List.length_append] at h; rw [eAdd_next, ← List.append_assoc, ← HAV.out]; exact h, by have h := HB7.out; rw [List.length_append] at h; exact h⟩
              case measure => simp [intOf]; omega
            · obtain rfl : j = cn := by omega
              have hav3 : av = upN at_ n + n * j := by rw [← HXE.out]; exact HAV.out
              have HAV3 := hid hav3
              clear hav3
              have g1 : decide ((j : Int) < (j : Int)) = false := decide_eq_false (by omega)
              go_wp2
              go_roundw
              case rel =>
                have hs := HSL1.out
                rw [HSTEP.out] at hs
                simp only at hs
                refine ⟨k + 1, by omega, by go_num, ?_⟩
                rw [HNX.out, HSTEP.out, HES.out]
                refine ⟨by rw [HAV3.out], rfl, ⟨by simp only; omega, by simp only; omega, by simp only; omega⟩, ⟨by simp only [List.length_append, List.length_singleton]; have := HLN.out; omega, by rw [List.length_append, eAdd_len]; have := HLE.out; omega⟩, HG1.out, ?_⟩
                rw [← HXE.out]
                exact HY6.out
              case measure => simp [intOf]; omega
        · have HXL : Hid (x + 1 ≤ upN at_ n) := hid (by
            have := upN_dvd at_ n
            by_cases e : x = upN at_ n
            · rw [← e] at this; omega
            · omega)
          generalize x % n = m at *
          have q1 : ((m : Int) != 0) = true := by simp only [bne, beq_eq_false_iff_ne.2 (show (m : Int) ≠ 0 by omega)]; rfl
          have q2 : (m != 0) = true := by simp only [bne, beq_eq_false_iff_ne.2 hxm]; rfl
          go_wp2
          go_roundw
          case rel => exact ⟨x + 1, by go_num, by omega, HXL.out, trivial⟩
          case measure => have := HXL.out; simp [intOf]; omega
    · obtain rfl : k = fs.length := by omega
      rw [List.take_length] at *
      have HALL2 : Hid (∀ f ∈ fs, okF f) := HALL
      have hps : pSize fs = upN (pRun fs).1 (pRun fs).2.1 := rfl
      have HPS := hid hps
      have g1 : decide ((fs.length : Int) < (fs.length : Int)) = false := decide_eq_false (by omega)
      clear hps HALL
      generalize hst : pRun fs = st at *
      obtain ⟨at_, gr, ss⟩ := st
      simp only at hb1 hb2 hb3 HY HLN HPS
      have hup := up_le at_ gr hb2
      have HGE := hid (upN_ge (a := at_) hb2)
      go_wp2_with fail
      clear g1
      go_loopw [8] (fun a wy => ∃ x : Nat, a = iV x ∧ at_ ≤ x ∧ x ≤ upN at_ gr ∧ wr = wy) (fun a _ => upN at_ gr + 1 - (intOf a).toNat)
      case atStart => exact ⟨at_, rfl, Nat.le_refl _, HGE.out, rfl⟩
      case round =>
        obtain ⟨x, rfl, hx1, hx2, rfl⟩ := hrel
        have hzz : ((gr : Int) == 0) = false := beq_eq_false_iff_ne.2 (by omega)
        have hmo : ((x : Int).tmod (gr : Int)) = ((x % gr : Nat) : Int) := by rw [Int.tmod_eq_emod_of_nonneg (by omega)]; exact (Int.natCast_emod x gr).symm
        have hml : x % gr < gr := Nat.mod_lt _ (by omega)
        by_cases hxm : x % gr = 0
        · have HXE := hid (upN_meet hb2 hx1 hx2 hxm)
          rw [hxm] at hmo
          clear hxm hml
          by_cases hbig : 256 < x
          · have g1 : decide ((256 : Int) < (x : Int)) = true := decide_eq_true (by omega)
            have G := hid (lay_big HL.out HALL2.out (by rw [HPS.out, ← HXE.out]; exact hbig))
            go_wp2
            (try simp only [Exit.inBlock, Exit.then])
            refine bodyPost_ret (results_t4 rfl _) rfl ?_
            exact ⟨.inl ⟨by rw [G.out]; decide, by rw [G.out]; rfl⟩, HY.out.keep⟩
          · have g1 : decide ((256 : Int) < (x : Int)) = false := decide_eq_false (by omega)
            have G := hid (lay_good HL.out HALL2.out (by rw [HPS.out, ← HXE.out]; exact hbig))
            go_wp2
            (try simp only [Exit.inBlock, Exit.then])
            refine bodyPost_ret (results_t4 rfl _) rfl ?_
            refine ⟨.inr ⟨G.out, op, oc, sp, sc, ?_, ?_⟩, HY.out.keep⟩
            · rw [HPS.out, ← HXE.out, hst]; rfl
            · rw [hst]; exact HY.out
        · have HXL : Hid (x + 1 ≤ upN at_ gr) := hid (by
            have := upN_dvd at_ gr
            by_cases e : x = upN at_ gr
            · rw [← e] at this; omega
            · omega)
          generalize x % gr = m at *
          have q1 : ((m : Int) != 0) = true := by simp only [bne, beq_eq_false_iff_ne.2 (show (m : Int) ≠ 0 by omega)]; rfl
          have q2 : (m != 0) = true := by simp only [bne, beq_eq_false_iff_ne.2 hxm]; rfl
          go_wp2
          go_roundw
          case rel => exact ⟨x + 1, by go_num, by omega, HXL.out, trivial⟩
          case measure => have := HXL.out; simp [intOf]; omega
end Go.Proofs.Ytcbboaoakgngkaa
