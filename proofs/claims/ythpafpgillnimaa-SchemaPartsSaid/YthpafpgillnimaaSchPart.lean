/- What is proved: what CheckPart of the schema's layer answers. -/
import Derived.Test.YthpafpgillnimaaSchMore
import Derived.Test.YthpafpgillnimaaLay3
namespace Go.Proofs.Sch
open Go.RowKit Go.Proofs.Heap Go.Proofs.Wide
/-- A part. -/
structure Prt where
  comp : Int
  vals : List WI
def PrtAt (B : Nat) (w : World) (b o : Nat) (x : Prt) : Prop := w.cell? ⟨b, o, none⟩ = some (.int .i64 x.comp) ∧ ∃ q c, w.cell? ⟨b, o + 1, none⟩ = some (.slice q x.vals.length c) ∧ x.vals.length ≤ c ∧ XP w B q x.vals
/-- A row of parts. -/
def PP (w : World) (B : Nat) (p : Option Addr) (l : List Prt) : Prop := RowP 2 (PrtAt B) w B p l
theorem PP.low {w w' : World} {B : Nat} {p : Option Addr} {l : List Prt} (h : PP w B p l) (hl : Low B w w') : PP w' B p l :=
  RowP.imp h (Nat.le_refl _) fun b o x hb hx => by
    obtain ⟨h1, q, c, h2, h3, h4⟩ := hx
    exact ⟨by rw [hl.cell hb]; exact h1, q, c, by rw [hl.cell hb]; exact h2, h3, XP.low h4 hl⟩
theorem PP.mono {w : World} {B B' : Nat} {p : Option Addr} {l : List Prt} (h : PP w B p l) (hB : B ≤ B') : PP w B' p l :=
  RowP.imp h hB fun b o x hb hx => by
    obtain ⟨h1, q, c, h2, h3, h4⟩ := hx
    exact ⟨h1, q, c, h2, h3, XP.mono h4 hB⟩
theorem PP.at {w : World} {B : Nat} {p : Option Addr} {l : List Prt} (h : PP w B p l) {i : Nat} {x : Prt} (hi : l[i]? = some x) : ∃ b off q c, p = some ⟨b, off, none⟩ ∧ b < B ∧ w.cell? ⟨b, off + i * 2, none⟩ = some (.int .i64 x.comp) ∧ w.cell? ⟨b, off + i * 2 + 1, none⟩ = some (.slice q x.vals.length c) ∧ x.vals.length ≤ c ∧ XP w B q x.vals := by
  rcases h with rfl | ⟨b, off, hp, hb, hc⟩
  · simp at hi
  · obtain ⟨h1, q, c, h2, h3, h4⟩ := hc i x hi
    exact ⟨b, off, q, c, hp, hb, h1, h2, h3, h4⟩
end Go.Proofs.Sch
namespace Go.Proofs.Ythpafpgillnimaa
open Go.RowKit Go.Proofs.Heap Go.Proofs.Sch Go.Proofs.Wide

/-- The error of a part. -/
def partC (cs : List Cmp) (x : Prt) : Nat := match cs.find? (fun c => decide (c.id = x.comp)) with | some c => fitC c.fs x.vals | none => 6

theorem find_of_idx {α : Type} {q : α → Bool} {l : List α} : (idxI q l = -1 → l.find? q = none) ∧ ∀ (k : Nat) (x : α), idxI q l = (k : Int) → l[k]? = some x → l.find? q = some x := by
  unfold idxI
  refine ⟨fun h => ?_, fun k x h hx => ?_⟩
  · cases e : l.findIdx? q with
    | none => rw [List.findIdx?_eq_none_iff] at e; rw [List.find?_eq_none]; intro y hy; rw [e y hy]; simp
    | some i => rw [e] at h; simp only at h; omega
  · cases e : l.findIdx? q with
    | none => rw [e] at h; simp only at h; omega
    | some i =>
      rw [e] at h
      simp only at h
      have hik : i = k := by omega
      subst hik
      rw [List.findIdx?_eq_some_iff_getElem] at e
      obtain ⟨hi, h1, h2⟩ := e
      rw [List.find?_eq_some_iff_getElem]
      rw [List.getElem?_eq_getElem hi] at hx
      injection hx with hx
      subst hx
      exact ⟨h1, i, hi, rfl, fun j hj => by have := h2 j hj; simpa using this⟩

set_option maxRecDepth 20000 in
set_option maxHeartbeats 2000000 in
theorem check_part (v : Int) (cs : List Cmp) (p : Option Addr) (cap : Nat) (x : Prt) (q : Option Addr) (qc : Nat) (w : World) (hl : Small cs) (hvl : x.vals.length ≤ 65536) (hqc : x.vals.length ≤ qc) (hfit : ∀ y ∈ x.vals, y.fit) (hf : CP w w.heap.size p cs) (hv : XP w w.heap.size q x.vals) :
    Calls Try.prog 19 #[.agg #[.int .i64 v, .slice p cs.length cap], .agg #[.int .i64 x.comp, .slice q x.vals.length qc]] w fun r w' => r = .returned (iV (partC cs x)) ∧ Keep (fun _ => False) w w' := by
  have hk0 : Keep (fun _ => False) w ((w.alloc (.cells #[.int .i64 v, .slice p cs.length cap] 24)).alloc (.cells #[.int .i64 x.comp, .slice q x.vals.length qc] 50)) := ((Keep.refl (fun _ => False) w).alloc _).alloc _
  have hb1 : ((w.alloc (.cells #[.int .i64 v, .slice p cs.length cap] 24)).alloc (.cells #[.int .i64 x.comp, .slice q x.vals.length qc] 50)).heap[w.heap.size]? = some (.cells #[.int .i64 v, .slice p cs.length cap] 24 (0, 0)) := (((Keep.refl (fun _ => False) _).alloc _).get (heap_alloc_new w _) (fun h => h))
  have hb2 : ((w.alloc (.cells #[.int .i64 v, .slice p cs.length cap] 24)).alloc (.cells #[.int .i64 x.comp, .slice q x.vals.length qc] 50)).heap[w.heap.size + 1]? = some (.cells #[.int .i64 x.comp, .slice q x.vals.length qc] 50 (0, 0)) := by
    have := heap_alloc_new (w.alloc (.cells #[.int .i64 v, .slice p cs.length cap] 24)) (.cells #[.int .i64 x.comp, .slice q x.vals.length qc] 50)
    simpa using this
  have HF := hid (CP.mono (CP.low hf (Low.keep0 hk0)) hk0.size)
  have HV := hid (XP.low hv (Low.keep0 hk0))
  have HK0 := hid hk0; have HB1 := hid hb1; have HB2 := hid hb2; have HL := hid hl; have HFT := hid hfit
  clear hf hv hk0 hb1 hb2 hl hfit
  go_enter Try.func19, Try.ntmps19
  go_upto_region 1 with fail
  generalize (w.alloc (.cells #[.int .i64 v, .slice p cs.length cap] 24)).alloc (.cells #[.int .i64 x.comp, .slice q x.vals.length qc] 50) = w0 at *
  generalize hsb : w.heap.size = sb at *
  have d0 : w0.cell? ⟨sb, 0, none⟩ = some (.int .i64 v) := cell_of HB1.out (by rfl)
  have d1 : w0.cell? ⟨sb, 1, none⟩ = some (.slice p cs.length cap) := cell_of HB1.out (by rfl)
  have d2 : w0.cell? ⟨sb + 1, 0, none⟩ = some (.int .i64 x.comp) := cell_of HB2.out (by rfl)
  go_wp2_with fail
  refine (sch_find x.comp v cs p cap _ HL.out HF.out).mono ?_
  rintro r w1 ⟨hr, hk1⟩
  have HK1 := hid (HK0.out.trans hk1)
  have HB3 := hid (hk1.get HB2.out (fun h => h))
  have HV1 := hid (XP.low HV.out (Low.of_keep hk1 (by have := HK0.out.size; omega) (fun _ h => h.elim)))
  clear hk1 d0 d1 d2
  rcases hr with ⟨k, c, p2, z, hz, hck, hqc2, rfl, hle, hown⟩ | ⟨hz, rfl⟩
  · have G : Hid (partC cs x = fitC c.fs x.vals) := hid (by unfold partC; rw [find_of_idx.2 k c hz hck])
    have hk2 := (Keep.refl (fun _ => False) w1).alloc (.cells #[.int .i64 c.id, .string c.name, .slice p2 c.fs.length z] 34)
    have HFF := hid (FP.mono (FP.low (fp_own rfl hown) (Low.keep0 hk2)) hk2.size)
    have HVV : Hid (XP (w1.alloc (.cells #[.int .i64 c.id, .string c.name, .slice p2 c.fs.length z] 34)) (w1.alloc (.cells #[.int .i64 c.id, .string c.name, .slice p2 c.fs.length z] 34)).heap.size q x.vals) := hid (XP.mono (XP.low HV1.out (Low.of_keep hk2 (by have := HK1.out.size; omega) (fun _ h => h.elim))) (by have := HK1.out.size; have := hk2.size; omega))
    have HK2 := hid (HK1.out.trans hk2)
    have HB4 := hid (hk2.get HB3.out (fun h => h))
    have HCB := hid (heap_alloc_new w1 (.cells #[.int .i64 c.id, .string c.name, .slice p2 c.fs.length z] 34))
    clear hz hck hqc2 hown hk2
    go_upto_region 2 with fail
    generalize w1.alloc (.cells #[.int .i64 c.id, .string c.name, .slice p2 c.fs.length z] 34) = w2 at *
    generalize w1.heap.size = cb at *
    have e2 : w2.cell? ⟨cb, 2, none⟩ = some (.slice p2 c.fs.length z) := cell_of HCB.out (by rfl)
    have e3 : w2.cell? ⟨sb + 1, 1, none⟩ = some (.slice q x.vals.length qc) := cell_of HB4.out (by rfl)
    go_wp2_with fail
    refine (lay_fit c.fs p2 z x.vals q qc _ hle hqc hvl HFT.out HFF.out HVV.out).mono ?_
    rintro r w3 ⟨rfl, hk3⟩
    have HK3 := hid (HK2.out.trans hk3)
    clear hk3 e2 e3
    go_wp2
    go_ret
    exact ⟨by rw [G.out]; rfl, HK3.out⟩
  · have G : Hid (partC cs x = 6) := hid (by unfold partC; rw [find_of_idx.1 hz])
    have HK2 := hid (HK1.out.alloc (.cells #[.int .i64 0, .string ⟨#[]⟩, .slice none 0 0] 34))
    clear hz
    go_wp2
    go_ret
    exact ⟨by rw [G.out]; rfl, HK2.out⟩

end Go.Proofs.Ythpafpgillnimaa
