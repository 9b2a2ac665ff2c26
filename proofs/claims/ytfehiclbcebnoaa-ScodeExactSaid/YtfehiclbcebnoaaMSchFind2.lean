/- What is proved: what Find and Named of a schema answer. -/
import Derived.Test.YtfehiclbcebnoaaMSchSame
import Derived.Test.YtfehiclbcebnoaaMLay2
import Derived.Test.YtfehiclbcebnoaaMSchCheck
import Derived.Test.YtfehiclbcebnoaaMBuilder
namespace Go.Proofs.Ytfehiclbcebnoaa
open Go.RowKit Go.Proofs.Heap Go.Proofs.Sch

theorem idx_cases {α : Type} (q : α → Bool) (l : List α) : idxI q l = -1 ∨ ∃ (k : Nat) (x : α), idxI q l = (k : Int) ∧ l[k]? = some x ∧ q x = true ∧ k < l.length := by
  unfold idxI
  cases h : l.findIdx? q with
  | none => exact .inl rfl
  | some k =>
    obtain ⟨hk, h1, _⟩ := List.findIdx?_eq_some_iff_getElem.1 h
    exact .inr ⟨k, l[k], rfl, List.getElem?_eq_getElem hk, h1, hk⟩

/-- What a search answers: the first one, with a row of its own, or none. -/
def Found (B : Nat) (w' : World) (q : Cmp → Bool) (cs : List Cmp) (r : Ending) : Prop :=
  (∃ (k : Nat) (c : Cmp) (p : Option Addr) (z : Nat), idxI q cs = (k : Int) ∧ cs[k]? = some c ∧ q c = true ∧ r = .returned (.tuple #[.agg #[.int .i64 c.id, .string c.name, .slice p c.fs.length z], .bool true]) ∧ c.fs.length ≤ z ∧ w'.ownsRow B 49 3 (.slice p c.fs.length z) c.fs.length (c.fs.flatMap fcl)) ∨
  (idxI q cs = -1 ∧ r = .returned (.tuple #[.agg #[.int .i64 0, .string ⟨#[]⟩, .slice none 0 0], .bool false]))

set_option maxRecDepth 20000 in
set_option maxHeartbeats 2000000 in
theorem find_id (id : Int) (cb : Nat) (v : Int) (cs : List Cmp) (p : Option Addr) (cap : Nat) (w : World) (hl : Small cs) (hf : CP w w.heap.size p cs) (hc : w.cell? ⟨cb, 0, none⟩ = some (.int .i64 id)) :
    Calls Try.prog 52 #[.agg #[.int .i64 v, .slice p cs.length cap], .func (.func 53) #[] #[.pointer (some ⟨cb, 0, none⟩)]] w fun r w' => Found w.heap.size w' (fun c => decide (c.id = id)) cs r ∧ Keep (fun _ => False) w w' := by
  have hk0 := ((Keep.refl (fun _ => False) w).alloc (.cells #[.int .i64 v, .slice p cs.length cap] 24)).alloc (.cells #[.int .i64 0, .string ⟨#[]⟩, .slice none 0 0] 52)
  have hb1 := ((Keep.refl (fun _ => False) (w.alloc (.cells #[.int .i64 v, .slice p cs.length cap] 24))).alloc (.cells #[.int .i64 0, .string ⟨#[]⟩, .slice none 0 0] 52)).get (heap_alloc_new w (.cells #[.int .i64 v, .slice p cs.length cap] 24)) (fun h => h)
  have hb2 := heap_alloc_new (w.alloc (.cells #[.int .i64 v, .slice p cs.length cap] 24)) (.cells #[.int .i64 0, .string ⟨#[]⟩, .slice none 0 0] 52)
  have hsz : (w.alloc (.cells #[.int .i64 v, .slice p cs.length cap] 24)).heap.size = w.heap.size + 1 := by simp
  rw [hsz] at hb2
  have hlow := Low.keep0 hk0
  have hc2 := (hlow.cell (o := 0) (World.block_lt_of_cell? w _ hc)).trans hc
  have HC2 := hid hc2
  have HF := hid (CP.mono (CP.low hf hlow) hk0.size)
  have HK0 := hid hk0; have HB1 := hid hb1; have HB2 := hid hb2
  have HL := hid hl
  have hl1 := hl.1
  have hsq := hk0.size
  clear hl hf hb1 hb2 hk0 hsz hlow hc hc2 hsq
  go_enter Try.func52, Try.ntmps52
  go_upto_region 1 with fail
  generalize (w.alloc (.cells #[.int .i64 v, .slice p cs.length cap] 24)).alloc (.cells #[.int .i64 0, .string ⟨#[]⟩, .slice none 0 0] 52) = w0 at *
  have HSB : Hid (w.heap.size + 1 < w0.heap.size) := hid (lt_of_heap HB2.out)
  generalize hsb : w.heap.size = sb at *
  have d1 : w0.cell? ⟨sb, 1, none⟩ = some (.slice p cs.length cap) := cell_of HB1.out (by rfl)
  go_wp2_with fail
  refine (idx_find id cb cs p cap _ hl1 HF.out HC2.out).mono ?_
  rintro r w1 ⟨rfl, hk1⟩
  have HK1 := hid (HK0.out.trans hk1)
  have HB1' := hid (hk1.get HB1.out (fun h => h)); have HB2' := hid (hk1.get HB2.out (fun h => h))
  have HF1 := hid (CP.mono (CP.low HF.out (Low.keep0 hk1)) hk1.size)
  have HS1 := hid (Nat.lt_of_lt_of_le HSB.out hk1.size)
  clear hk1 d1
  have HCS := hid (idx_cases (fun c => decide (c.id = id)) cs)
  generalize hz : idxI (fun c => decide (c.id = id)) cs = z at *
  have HZ := hid hz
  clear hz
  rcases HCS.out with h | ⟨k, c, h, hck, hqc, hkl⟩
  · subst h
    have c0 := cell_of HB2'.out (i := 0) (by rfl)
    have c1 := cell_of HB2'.out (i := 1) (by rfl)
    have c2 := cell_of HB2'.out (i := 2) (by rfl)
    have f0 := free_of HB2'.out 0
    have f1 := free_of HB2'.out 1
    have f2 := free_of HB2'.out 2
    have g1 : decide ((-1 : Int) < 0) = true := by decide
    go_wp2
    (try simp only [Exit.inBlock, Exit.then])
    refine bodyPost_ret (results_ct rfl _ rfl (run_loadVar_row _ (sb + 1) _ 52 _ _ _ (cells3 (.int .i64 0) (.string ⟨#[]⟩) (.slice none 0 0) HB2'.out) Try.underlying52 rfl (by kernel_rfl))) rfl ?_
    exact ⟨.inr ⟨HZ.out, rfl⟩, ((HK1.out.setCell_new (by simp [hsb]) _).setCell_new (by simp [hsb]) _).setCell_new (by simp [hsb]) _⟩
  · subst h
    have g1 : decide ((k : Int) < 0) = false := decide_eq_false (by omega)
    obtain ⟨b, off, fq, fk, rfl, hb, c0, c1, c2, hle, hff⟩ := CP.at HF1.out hck
    have hin : (0 : Int) ≤ (k : Int) ∧ (k : Int) < (cs.length : Int) := ⟨by omega, by omega⟩
    have hxl := HL.out.2 c (List.mem_of_getElem? hck)
    have d1 : w1.cell? ⟨sb, 1, none⟩ = some (.slice (some ⟨b, off, none⟩) cs.length cap) := cell_of HB1'.out (by rfl)
    have hk2 := (Keep.refl (fun _ => False) w1).alloc (.cells #[.int .i64 c.id, .string c.name, .slice fq c.fs.length fk] 52)
    have HFF := hid (FP.mono (FP.low hff (Low.keep0 hk2)) hk2.size)
    have HCB := hid (heap_alloc_new w1 (.cells #[.int .i64 c.id, .string c.name, .slice fq c.fs.length fk] 52))
    have HK2 := hid (HK1.out.trans hk2); have HB3 := hid (hk2.get HB2'.out (fun h => h))
    have HCK := hid hck; have HQC := hid hqc
    clear hff hk2 hck hqc
    go_wp2_with fail
    generalize w1.alloc (.cells #[.int .i64 c.id, .string c.name, .slice fq c.fs.length fk] 52) = wa at *
    have hqs := HS1.out
    have HQN : Hid (w1.heap.size ≠ sb + 1) := hid (by omega)
    have HSQ := hid (Nat.le_trans HK1.out.size (Nat.le_refl _))
    generalize w1.heap.size = q at *
    refine (clone_fields c.fs fq fk _ hxl HFF.out).mono ?_
    rintro r w3 ⟨p2, z2, rfl, hz2, hown, hk3⟩
    have HK3 := hid (HK2.out.trans hk3)
    have HCB3 := hid (hk3.get HCB.out (fun h => h)); have HB4 := hid (hk3.get HB3.out (fun h => h))
    have HOWN := hid hown
    have HLQ := hid (lt_of_heap HCB.out)
    have e0 := cell_of HCB3.out (i := 0) (by rfl)
    have e1 := cell_of HCB3.out (i := 1) (by rfl)
    have e2 := cell_of HCB3.out (i := 2) (by rfl)
    have e3 := free_of HCB3.out 2
    have c0 := cell_of HB4.out (i := 0) (by rfl)
    have c1 := cell_of HB4.out (i := 1) (by rfl)
    have c2 := cell_of HB4.out (i := 2) (by rfl)
    have f0 := free_of HB4.out 0
    have f1 := free_of HB4.out 1
    have f2 := free_of HB4.out 2
    have HWS : Hid (wa.heap.size ≤ w3.heap.size) := hid hk3.size
    have HW1 : Hid (w.heap.size ≤ w3.heap.size) := hid HK3.out.size
    clear hk3 hown
    go_wp2
    (try simp only [Exit.inBlock, Exit.then])
    have hr := cells3 (.int .i64 c.id) (.string c.name) (.slice p2 c.fs.length z2) ((hsc_ne (w := w3) (g := q) (i := 2) (k := sb + 1) (.slice p2 c.fs.length z2) (by have := HQN.out; omega)).trans HB4.out)
    refine bodyPost_ret (results_ct rfl _ rfl (run_loadVar_row _ (sb + 1) _ 52 _ _ _ hr Try.underlying52 rfl (by kernel_rfl))) rfl ?_
    refine ⟨.inl ⟨k, c, p2, z2, HZ.out, HCK.out, HQC.out, rfl, hz2, ?_⟩, (((HK3.out.setCell_new (by have := HSQ.out; simp [hsb] at this ⊢; omega) _).setCell_new (by simp [hsb]) _).setCell_new (by simp [hsb]) _).setCell_new (by simp [hsb]) _⟩
    have ho := owns_keep (w' := (((w3.setCell ⟨q, 2, none⟩ (.slice p2 c.fs.length z2)).setCell ⟨sb + 1, 0, none⟩ (.int .i64 c.id)).setCell ⟨sb + 1, 1, none⟩ (.string c.name)).setCell ⟨sb + 1, 2, none⟩ (.slice p2 c.fs.length z2)) HOWN.out (fun g hg => by
      have h1 := (HOWN.out.lt g hg).1
      have h2 := HLQ.out; have h3 := HSQ.out; have h4 := hqs
      rw [hsc_ne _ (by omega), hsc_ne _ (by omega), hsc_ne _ (by omega), hsc_ne _ (by omega)])
    exact owns_mono ho (by have := HSQ.out; have := HLQ.out; omega)

set_option maxRecDepth 20000 in
set_option maxHeartbeats 1000000 in
theorem sch_find (id : Int) (v : Int) (cs : List Cmp) (p : Option Addr) (cap : Nat) (w : World) (hl : Small cs) (hf : CP w w.heap.size p cs) :
    Calls Try.prog 33 #[.agg #[.int .i64 v, .slice p cs.length cap], .int .i64 id] w fun r w' => Found w.heap.size w' (fun c => decide (c.id = id)) cs r ∧ Keep (fun _ => False) w w' := by
  have hk0 : Keep (fun _ => False) w (((w.alloc (.cells #[.int .i64 v, .slice p cs.length cap] 24)).alloc (.cells #[.int .i64 id] 3)).alloc (.cells #[.int .i64 0, .string ⟨#[]⟩, .slice none 0 0] 52)) := (((Keep.refl (fun _ => False) w).alloc _).alloc _).alloc _
  have hb1 : (((w.alloc (.cells #[.int .i64 v, .slice p cs.length cap] 24)).alloc (.cells #[.int .i64 id] 3)).alloc (.cells #[.int .i64 0, .string ⟨#[]⟩, .slice none 0 0] 52)).heap[w.heap.size]? = some (.cells #[.int .i64 v, .slice p cs.length cap] 24 (0, 0)) := ((((Keep.refl (fun _ => False) _).alloc _).alloc _).get (heap_alloc_new w _) (fun h => h))
  have hb2 : (((w.alloc (.cells #[.int .i64 v, .slice p cs.length cap] 24)).alloc (.cells #[.int .i64 id] 3)).alloc (.cells #[.int .i64 0, .string ⟨#[]⟩, .slice none 0 0] 52)).heap[w.heap.size + 1]? = some (.cells #[.int .i64 id] 3 (0, 0)) := by
    have := (((Keep.refl (fun _ => False) ((w.alloc (.cells #[.int .i64 v, .slice p cs.length cap] 24)).alloc (.cells #[.int .i64 id] 3))).alloc (.cells #[.int .i64 0, .string ⟨#[]⟩, .slice none 0 0] 52)).get (heap_alloc_new (w.alloc (.cells #[.int .i64 v, .slice p cs.length cap] 24)) (.cells #[.int .i64 id] 3)) (fun h => h))
    simpa using this
  have hb3 : (((w.alloc (.cells #[.int .i64 v, .slice p cs.length cap] 24)).alloc (.cells #[.int .i64 id] 3)).alloc (.cells #[.int .i64 0, .string ⟨#[]⟩, .slice none 0 0] 52)).heap[w.heap.size + 2]? = some (.cells #[.int .i64 0, .string ⟨#[]⟩, .slice none 0 0] 52 (0, 0)) := by
    have := heap_alloc_new ((w.alloc (.cells #[.int .i64 v, .slice p cs.length cap] 24)).alloc (.cells #[.int .i64 id] 3)) (.cells #[.int .i64 0, .string ⟨#[]⟩, .slice none 0 0] 52)
    simpa using this
  have HF := hid (CP.mono (CP.low hf (Low.keep0 hk0)) hk0.size)
  have HK0 := hid hk0; have HB1 := hid hb1; have HB2 := hid hb2; have HB3 := hid hb3
  have HL := hid hl
  clear hl hf hb1 hb2 hb3 hk0
  go_enter Try.func33, Try.ntmps33
  go_upto_region 1 with fail
  generalize (((w.alloc (.cells #[.int .i64 v, .slice p cs.length cap] 24)).alloc (.cells #[.int .i64 id] 3)).alloc (.cells #[.int .i64 0, .string ⟨#[]⟩, .slice none 0 0] 52)) = w0 at *
  generalize hsb : w.heap.size = sb at *
  have d0 : w0.cell? ⟨sb, 0, none⟩ = some (.int .i64 v) := cell_of HB1.out (by rfl)
  have d1 : w0.cell? ⟨sb, 1, none⟩ = some (.slice p cs.length cap) := cell_of HB1.out (by rfl)
  have HC : Hid (w0.cell? ⟨sb + 1, 0, none⟩ = some (.int .i64 id)) := hid (cell_of HB2.out (by rfl))
  go_wp2_with fail
  refine (find_id id (sb + 1) v cs p cap _ HL.out HF.out HC.out).mono ?_
  rintro r w1 ⟨hr, hk1⟩
  have HK1 := hid (HK0.out.trans hk1)
  have HB4 := hid (hk1.get HB3.out (fun h => h))
  have HS := hid (lt_of_heap HB3.out)
  have HW1 : Hid (w0.heap.size ≤ w1.heap.size) := hid hk1.size
  clear hk1 d0 d1
  have c0 := cell_of HB4.out (i := 0) (by rfl)
  have c1 := cell_of HB4.out (i := 1) (by rfl)
  have c2 := cell_of HB4.out (i := 2) (by rfl)
  have f0 := free_of HB4.out 0
  have f1 := free_of HB4.out 1
  have f2 := free_of HB4.out 2
  rcases hr with ⟨k, c, p2, z, hz, hck, hqc, rfl, hle, hfp⟩ | ⟨hz, rfl⟩
  · have HZ := hid hz; have HCK := hid hck; have HFP := hid hfp; have HQC := hid hqc
    clear hz hck hfp hqc
    go_wp2
    (try simp only [Exit.inBlock, Exit.then])
    refine bodyPost_ret (results_ct rfl _ rfl (run_loadVar_row _ (sb + 2) _ 52 _ _ _ (cells3 (.int .i64 c.id) (.string c.name) (.slice p2 c.fs.length z) HB4.out) Try.underlying52 rfl (by kernel_rfl))) rfl ?_
    refine ⟨.inl ⟨k, c, p2, z, HZ.out, HCK.out, HQC.out, rfl, hle, ?_⟩, ((HK1.out.setCell_new (by show w.heap.size ≤ sb + 2; omega) _).setCell_new (by show w.heap.size ≤ sb + 2; omega) _).setCell_new (by show w.heap.size ≤ sb + 2; omega) _⟩
    have h2 := HS.out; have h3 := HK0.out.size
    exact owns_mono (owns_keep HFP.out (fun g hg => by
      have h1 := (HFP.out.lt g hg).1
      rw [hsc_ne _ (by omega), hsc_ne _ (by omega), hsc_ne _ (by omega)])) (by omega)
  · have HZ := hid hz
    clear hz
    go_wp2
    (try simp only [Exit.inBlock, Exit.then])
    refine bodyPost_ret (results_ct rfl _ rfl (run_loadVar_row _ (sb + 2) _ 52 _ _ _ (cells3 (.int .i64 0) (.string ⟨#[]⟩) (.slice none 0 0) HB4.out) Try.underlying52 rfl (by kernel_rfl))) rfl ?_
    exact ⟨.inr ⟨HZ.out, rfl⟩, ((HK1.out.setCell_new (by show w.heap.size ≤ sb + 2; omega) _).setCell_new (by show w.heap.size ≤ sb + 2; omega) _).setCell_new (by show w.heap.size ≤ sb + 2; omega) _⟩

end Go.Proofs.Ytfehiclbcebnoaa

namespace Go.Proofs.Ytfehiclbcebnoaa
open Go.RowKit Go.Proofs.Heap Go.Proofs.Sch

theorem results_tt {fn : Func} {p u : Tmp} (h : fn.results = #[.tmp p, .tmp u]) (tmps : Array Value) {P : Program} {w : World} : (results fn tmps).run P w = .ok (.tuple #[tmps.getD p undef, tmps.getD u undef]) w := by
  simp [results, h]

end Go.Proofs.Ytfehiclbcebnoaa

namespace Go.Proofs.Sch
open Go.RowKit Go.Proofs.Heap Go.Proofs.Wide
/-- A part. -/
structure Prt where
  comp : Int
  vals : List WI
def PrtAt (B : Nat) (w : World) (b o : Nat) (x : Prt) : Prop := w.cell? ⟨b, o, none⟩ = some (.int .i64 x.comp) ∧ ∃ q c, w.cell? ⟨b, o + 1, none⟩ = some (.slice q x.vals.length c) ∧ x.vals.length ≤ c ∧ XP w B q x.vals
/-- A row of parts. -/
def PP (w : World) (B : Nat) (p : Option Addr) (l : List Prt) : Prop := RowP 2 (PrtAt B) w B p l
theorem PP.low {w w' : World} {B : Nat} {p : Option Addr} {l : List Prt} (h : PP w B p l) (hl : Low B w w') : PP w' B p l :=
  RowP.imp h (Nat.le_refl _) fun b o x hb hx => by
    obtain ⟨h1, q, c, h2, h3, h4⟩ := hx
    exact ⟨by rw [hl.cell hb]; exact h1, q, c, by rw [hl.cell hb]; exact h2, h3, XP.low h4 hl⟩
theorem PP.mono {w : World} {B B' : Nat} {p : Option Addr} {l : List Prt} (h : PP w B p l) (hB : B ≤ B') : PP w B' p l :=
  RowP.imp h hB fun b o x hb hx => by
    obtain ⟨h1, q, c, h2, h3, h4⟩ := hx
    exact ⟨h1, q, c, h2, h3, XP.mono h4 hB⟩
theorem PP.at {w : World} {B : Nat} {p : Option Addr} {l : List Prt} (h : PP w B p l) {i : Nat} {x : Prt} (hi : l[i]? = some x) : ∃ b off q c, p = some ⟨b, off, none⟩ ∧ b < B ∧ w.cell? ⟨b, off + i * 2, none⟩ = some (.int .i64 x.comp) ∧ w.cell? ⟨b, off + i * 2 + 1, none⟩ = some (.slice q x.vals.length c) ∧ x.vals.length ≤ c ∧ XP w B q x.vals := by
  rcases h with rfl | ⟨b, off, hp, hb, hc⟩
  · simp at hi
  · obtain ⟨h1, q, c, h2, h3, h4⟩ := hc i x hi
    exact ⟨b, off, q, c, hp, hb, h1, h2, h3, h4⟩
end Go.Proofs.Sch
namespace Go.Proofs.Ytfehiclbcebnoaa
open Go.RowKit Go.Proofs.Heap Go.Proofs.Sch Go.Proofs.Wide

/-- The error of a part. -/
def partC (cs : List Cmp) (x : Prt) : Nat := match cs.find? (fun c => decide (c.id = x.comp)) with | some c => fitC c.fs x.vals | none => 6

theorem find_of_idx {α : Type} {q : α → Bool} {l : List α} : (idxI q l = -1 → l.find? q = none) ∧ ∀ (k : Nat) (x : α), idxI q l = (k : Int) → l[k]? = some x → l.find? q = some x := by
  unfold idxI
  refine ⟨fun h => ?_, fun k x h hx => ?_⟩
  · cases e : l.findIdx? q with
    | none => rw [List.findIdx?_eq_none_iff] at e; rw [List.find?_eq_none]; intro y hy; rw [e y hy]; simp
    | some i => rw [e] at h; simp only at h; omega
  · cases e : l.findIdx? q with
    | none => rw [e] at h; simp only at h; omega
    | some i =>
      rw [e] at h
      simp only at h
      have hik : i = k := by omega
      subst hik
      rw [List.findIdx?_eq_some_iff_getElem] at e
      obtain ⟨hi, h1, h2⟩ := e
      rw [List.find?_eq_some_iff_getElem]
      rw [List.getElem?_eq_getElem hi] at hx
      injection hx with hx
      subst hx
      exact ⟨h1, i, hi, rfl, fun j hj => by have := h2 j hj; simpa using this⟩

set_option maxRecDepth 20000 in
set_option maxHeartbeats 2000000 in
theorem check_partU (v : Int) (cs : List Cmp) (p : Option Addr) (cap : Nat) (x : Prt) (q : Option Addr) (qc : Nat) (w : World) (hl : Small cs) (hqc : x.vals.length ≤ qc) (hfit : ∀ y ∈ x.vals, y.fit) (hf : CP w w.heap.size p cs) (hv : XP w w.heap.size q x.vals) :
    Calls Try.prog 71 #[.agg #[.int .i64 v, .slice p cs.length cap], .agg #[.int .i64 x.comp, .slice q x.vals.length qc]] w fun r w' => r = .returned (iV (partC cs x)) ∧ Keep (fun _ => False) w w' := by
  have hk0 : Keep (fun _ => False) w ((w.alloc (.cells #[.int .i64 v, .slice p cs.length cap] 24)).alloc (.cells #[.int .i64 x.comp, .slice q x.vals.length qc] 59)) := ((Keep.refl (fun _ => False) w).alloc _).alloc _
  have hb1 : ((w.alloc (.cells #[.int .i64 v, .slice p cs.length cap] 24)).alloc (.cells #[.int .i64 x.comp, .slice q x.vals.length qc] 59)).heap[w.heap.size]? = some (.cells #[.int .i64 v, .slice p cs.length cap] 24 (0, 0)) := (((Keep.refl (fun _ => False) _).alloc _).get (heap_alloc_new w _) (fun h => h))
  have hb2 : ((w.alloc (.cells #[.int .i64 v, .slice p cs.length cap] 24)).alloc (.cells #[.int .i64 x.comp, .slice q x.vals.length qc] 59)).heap[w.heap.size + 1]? = some (.cells #[.int .i64 x.comp, .slice q x.vals.length qc] 59 (0, 0)) := by
    have := heap_alloc_new (w.alloc (.cells #[.int .i64 v, .slice p cs.length cap] 24)) (.cells #[.int .i64 x.comp, .slice q x.vals.length qc] 59)
    simpa using this
  have HF := hid (CP.mono (CP.low hf (Low.keep0 hk0)) hk0.size)
  have HV := hid (XP.low hv (Low.keep0 hk0))
  have HK0 := hid hk0; have HB1 := hid hb1; have HB2 := hid hb2; have HL := hid hl; have HFT := hid hfit
  clear hf hv hk0 hb1 hb2 hl hfit
  go_enter Try.func71, Try.ntmps71
  go_upto_region 1 with fail
  generalize (w.alloc (.cells #[.int .i64 v, .slice p cs.length cap] 24)).alloc (.cells #[.int .i64 x.comp, .slice q x.vals.length qc] 59) = w0 at *
  generalize hsb : w.heap.size = sb at *
  have d0 : w0.cell? ⟨sb, 0, none⟩ = some (.int .i64 v) := cell_of HB1.out (by rfl)
  have d1 : w0.cell? ⟨sb, 1, none⟩ = some (.slice p cs.length cap) := cell_of HB1.out (by rfl)
  have d2 : w0.cell? ⟨sb + 1, 0, none⟩ = some (.int .i64 x.comp) := cell_of HB2.out (by rfl)
  go_wp2_with fail
  refine (sch_find x.comp v cs p cap _ HL.out HF.out).mono ?_
  rintro r w1 ⟨hr, hk1⟩
  have HK1 := hid (HK0.out.trans hk1)
  have HB3 := hid (hk1.get HB2.out (fun h => h))
  have HV1 := hid (XP.low HV.out (Low.of_keep hk1 (by have := HK0.out.size; omega) (fun _ h => h.elim)))
  clear hk1 d0 d1 d2
  rcases hr with ⟨k, c, p2, z, hz, hck, hqc2, rfl, hle, hown⟩ | ⟨hz, rfl⟩
  · have G : Hid (partC cs x = fitC c.fs x.vals) := hid (by unfold partC; rw [find_of_idx.2 k c hz hck])
    have hk2 := (Keep.refl (fun _ => False) w1).alloc (.cells #[.int .i64 c.id, .string c.name, .slice p2 c.fs.length z] 52)
    have HFF := hid (FP.mono (FP.low (fp_own rfl hown) (Low.keep0 hk2)) hk2.size)
    have HVV : Hid (XP (w1.alloc (.cells #[.int .i64 c.id, .string c.name, .slice p2 c.fs.length z] 52)) (w1.alloc (.cells #[.int .i64 c.id, .string c.name, .slice p2 c.fs.length z] 52)).heap.size q x.vals) := hid (XP.mono (XP.low HV1.out (Low.of_keep hk2 (by have := HK1.out.size; omega) (fun _ h => h.elim))) (by have := HK1.out.size; have := hk2.size; omega))
    have HK2 := hid (HK1.out.trans hk2)
    have HB4 := hid (hk2.get HB3.out (fun h => h))
    have HCB := hid (heap_alloc_new w1 (.cells #[.int .i64 c.id, .string c.name, .slice p2 c.fs.length z] 52))
    clear hz hck hqc2 hown hk2
    go_upto_region 2 with fail
    generalize w1.alloc (.cells #[.int .i64 c.id, .string c.name, .slice p2 c.fs.length z] 52) = w2 at *
    generalize w1.heap.size = cb at *
    have e2 : w2.cell? ⟨cb, 2, none⟩ = some (.slice p2 c.fs.length z) := cell_of HCB.out (by rfl)
    have e3 : w2.cell? ⟨sb + 1, 1, none⟩ = some (.slice q x.vals.length qc) := cell_of HB4.out (by rfl)
    go_wp2_with fail
    refine (lay_fitU c.fs p2 z x.vals q qc _ hle hqc HFT.out HFF.out HVV.out).mono ?_
    rintro r w3 ⟨rfl, hk3⟩
    have HK3 := hid (HK2.out.trans hk3)
    clear hk3 e2 e3
    go_wp2
    go_ret
    exact ⟨by rw [G.out]; rfl, HK3.out⟩
  · have G : Hid (partC cs x = 6) := hid (by unfold partC; rw [find_of_idx.1 hz])
    have HK2 := hid (HK1.out.alloc (.cells #[.int .i64 0, .string ⟨#[]⟩, .slice none 0 0] 52))
    clear hz
    go_wp2
    go_ret
    exact ⟨by rw [G.out]; rfl, HK2.out⟩

theorem check_part (v : Int) (cs : List Cmp) (p : Option Addr) (cap : Nat) (x : Prt) (q : Option Addr) (qc : Nat) (w : World) (hl : Small cs) (_hvl : x.vals.length ≤ 65536) (hqc : x.vals.length ≤ qc) (hfit : ∀ y ∈ x.vals, y.fit) (hf : CP w w.heap.size p cs) (hv : XP w w.heap.size q x.vals) :
    Calls Try.prog 71 #[.agg #[.int .i64 v, .slice p cs.length cap], .agg #[.int .i64 x.comp, .slice q x.vals.length qc]] w fun r w' => r = .returned (iV (partC cs x)) ∧ Keep (fun _ => False) w w' := check_partU v cs p cap x q qc w hl hqc hfit hf hv
end Go.Proofs.Ytfehiclbcebnoaa

namespace Go.Proofs.Ytfehiclbcebnoaa
open Go.RowKit Go.Proofs.Heap Go.Proofs.Sch Go.Proofs.Wide

theorem PP.take {w : World} {B : Nat} {p : Option Addr} {l : List Prt} (h : PP w B p l) (k : Nat) : PP w B p (l.take k) := by
  rcases h with rfl | ⟨b, off, hp, hb, hc⟩
  · exact .inl (by simp)
  · refine .inr ⟨b, off, hp, hb, fun i x hx => hc i x ?_⟩
    rw [List.getElem?_take] at hx
    split at hx
    · exact hx
    · cases hx

/-- The error of the parts that are left. -/
def partsC (cs : List Cmp) : List Int → List Prt → Nat
  | _, [] => 0
  | seen, x :: r => if seen.any (fun c => decide (c = x.comp)) = true then 1 else if partC cs x = 0 then partsC cs (seen ++ [x.comp]) r else partC cs x

theorem part_clo (x : Prt) (q : Option Addr) (c : Nat) (cb : Nat) (id : Int) (w : World) (hc : w.cell? ⟨cb, 0, none⟩ = some (.int .i64 id)) :
    Calls Try.prog 70 #[.agg #[.int .i64 x.comp, .slice q x.vals.length c], .pointer (some ⟨cb, 0, none⟩)] w fun r w' => r = .returned (.bool (decide (x.comp = id))) ∧ Keep (fun _ => False) w w' := by
  have hk := (Keep.refl (fun _ => False) w).alloc (.cells #[.int .i64 x.comp, .slice q x.vals.length c] 59)
  have HK := hid hk
  have hlt := World.block_lt_of_cell? w _ hc
  have hc2 := ((Low.keep0 hk).cell (o := 0) hlt).trans hc
  have HD : Hid ((x.comp == id) = decide (x.comp = id)) := hid (by cases h : decide (x.comp = id) <;> simp_all)
  clear hk
  go_enter Try.func70, Try.ntmps70
  go_wp2
  go_ret
  exact ⟨by first | rfl | (rw [← HD.out]; rfl), HK.out⟩

set_option maxRecDepth 20000 in
set_option maxHeartbeats 2000000 in
theorem idx_parts (id : Int) (cb : Nat) (l : List Prt) (n : Nat) (p : Option Addr) (cap : Nat) (w : World) (hn : l.length = n) (hl : n ≤ 65536) (hf : PP w w.heap.size p l) (hc : w.cell? ⟨cb, 0, none⟩ = some (.int .i64 id)) :
    Calls Try.prog 87 #[.slice p n cap, .func (.func 70) #[] #[.pointer (some ⟨cb, 0, none⟩)]] w fun r w' => r = .returned (.int .i64 (idxI (fun x => decide (x.comp = id)) l)) ∧ Keep (fun _ => False) w w' := by
  have HF := hid hf
  have HQ : Hid (∀ (x : Prt) (q : Option Addr) (c : Nat) (wy : World), Keep (fun _ => False) w wy → Calls Try.prog 70 #[.agg #[.int .i64 x.comp, .slice q x.vals.length c], .pointer (some ⟨cb, 0, none⟩)] wy fun r w' => r = .returned (.bool ((fun x : Prt => decide (x.comp = id)) x)) ∧ Keep (fun _ => False) wy w') :=
    hid (fun x q c wy hk => part_clo x q c cb _ wy (((Low.keep0 hk).cell (o := 0) (World.block_lt_of_cell? w _ hc)).trans hc))
  obtain ⟨q, hqe⟩ : ∃ q : Prt → Bool, q = (fun x : Prt => decide (x.comp = id)) := ⟨_, rfl⟩
  rw [← hqe] at HQ
  rw [← hqe]
  have HN := hid hn
  clear hf hc hqe hn
  go_enter Try.func87, Try.ntmps87
  go_wp2_with fail
  go_loopw [5, 8] (fun _ i wr => ∃ k : Nat, k ≤ n ∧ i = iV k ∧ Keep (fun _ => False) w wr ∧ ∀ c ∈ l.take k, q c = false) (fun _ i _ => n + 1 - (intOf i).toNat)
  case atStart => exact ⟨0, by omega, rfl, Keep.refl _ _, by simp⟩
  case round =>
    obtain ⟨k, hk, rfl, hkeep, hall⟩ := hrel
    have HK := hid hkeep; have HA := hid hall
    clear hkeep hall
    by_cases hlt : k < n
    · obtain ⟨c, hck⟩ : ∃ c, l[k]? = some c := ⟨l[k]'(by have := HN.out; omega), by simp [show k < l.length by have := HN.out; omega]⟩
      obtain ⟨b, off, fq, fk, rfl, hb, c0, c1, _, _⟩ := PP.at (PP.low HF.out (Low.keep0 HK.out)) hck
      have hin : (0 : Int) ≤ (k : Int) ∧ (k : Int) < (n : Int) := ⟨by omega, by omega⟩
      have HCK := hid hck
      clear hck
      go_wp2_with fail
      refine (HQ.out c fq fk _ HK.out).mono ?_
      rintro r w1 ⟨rfl, hk1⟩
      have HK1 := hid (HK.out.trans hk1)
      clear hk1
      cases hqc : q c
      · have HNX : Hid (∀ d ∈ l.take (k + 1), q d = false) := hid (fun d hd => by
          rw [take_next HCK.out] at hd
          rcases List.mem_append.1 hd with h | h
          · exact HA.out d h
          · rw [List.mem_singleton.1 h]; exact hqc)
        clear hqc
        go_wp2
        go_roundw
        case rel => exact ⟨k + 1, by omega, by go_num, HK1.out, HNX.out⟩
        case measure => simp [intOf]; omega
      · have G3 := hid (idx_at HCK.out hqc HA.out)
        clear hqc
        go_wp2
        go_ret
        exact ⟨by rw [G3.out]; rfl, HK1.out⟩
    · obtain rfl : k = n := by omega
      have G3 := hid (idx_none (q := q) (l := l) (by have := HA.out; rwa [List.take_of_length_le (by have := HN.out; omega)] at this))
      go_wp2
      go_ret
      exact ⟨by rw [G3.out]; rfl, HK.out⟩

theorem contains_parts (id : Int) (cb : Nat) (l : List Prt) (n : Nat) (p : Option Addr) (cap : Nat) (w : World) (hn : l.length = n) (hl : n ≤ 65536) (hf : PP w w.heap.size p l) (hc : w.cell? ⟨cb, 0, none⟩ = some (.int .i64 id)) :
    Calls Try.prog 69 #[.slice p n cap, .func (.func 70) #[] #[.pointer (some ⟨cb, 0, none⟩)]] w fun r w' => r = .returned (.bool ((l.map (·.comp)).any (fun c => decide (c = id)))) ∧ Keep (fun _ => False) w w' := by
  have HN := hid hn; have HF := hid hf; have HC := hid hc
  clear hn hf hc
  go_enter Try.func69, Try.ntmps69
  go_wp2_with fail
  refine (idx_parts id cb l n p cap _ HN.out hl HF.out HC.out).mono ?_
  rintro r w1 ⟨rfl, hk1⟩
  have HK := hid hk1
  have hcs := idx_cases (fun x : Prt => decide (x.comp = id)) l
  have HF2 := hid (find_of_idx (q := fun x : Prt => decide (x.comp = id)) (l := l))
  clear hk1
  generalize hz : idxI (fun x : Prt => decide (x.comp = id)) l = z at *
  clear hz
  rcases hcs with h | ⟨k, x, h, hx, hqx, _⟩
  · subst h
    have G : Hid ((l.map (·.comp)).any (fun c => decide (c = id)) = false) := hid (by
      have := HF2.out.1 rfl
      rw [List.find?_eq_none] at this
      rw [List.any_eq_false]
      intro c hc
      obtain ⟨x, hx, rfl⟩ := List.mem_map.1 hc
      exact this x hx)
    go_wp2
    go_ret
    exact ⟨by rw [G.out]; rfl, HK.out⟩
  · subst h
    have G : Hid ((l.map (·.comp)).any (fun c => decide (c = id)) = true) := hid (by
      rw [List.any_eq_true]
      exact ⟨x.comp, List.mem_map.2 ⟨x, List.mem_of_getElem? hx, rfl⟩, hqx⟩)
    have g1 : decide ((0 : Int) ≤ (k : Int)) = true := decide_eq_true (by omega)
    clear hx hqx
    go_wp2
    go_ret
    exact ⟨by rw [G.out]; rfl, HK.out⟩

set_option maxRecDepth 20000 in
set_option maxHeartbeats 4000000 in
theorem check_partsU (v : Int) (cs : List Cmp) (p : Option Addr) (cap : Nat) (l : List Prt) (q : Option Addr) (qc : Nat) (w : World) (hl : Small cs) (hll : l.length ≤ 65536) (hqc : l.length ≤ qc) (hvl : ∀ x ∈ l, ∀ y ∈ x.vals, y.fit) (hf : CP w w.heap.size p cs) (hv : PP w w.heap.size q l) :
    Calls Try.prog 50 #[.agg #[.int .i64 v, .slice p cs.length cap], .slice q l.length qc] w fun r w' => r = .returned (iV (partsC cs [] l)) ∧ Keep (fun _ => False) w w' := by
  have hk0 := (Keep.refl (fun _ => False) w).alloc (.cells #[.int .i64 v, .slice p cs.length cap] 24)
  have HB0 := hid (heap_alloc_new w (.cells #[.int .i64 v, .slice p cs.length cap] 24))
  have HF := hid (CP.mono (CP.low hf (Low.keep0 hk0)) hk0.size)
  have HV := hid (PP.mono (PP.low hv (Low.keep0 hk0)) hk0.size)
  have HK0 := hid hk0; have HL := hid hl; have HVL := hid hvl
  clear hf hv hk0 hl hvl
  go_enter Try.func50, Try.ntmps50
  go_upto_region 1 with fail
  generalize w.alloc (.cells #[.int .i64 v, .slice p cs.length cap] 24) = w0 at *
  generalize hsb : w.heap.size = sb at *
  go_wp2_with fail
  go_loopw [5, 6, 7, 10] (fun _ _ _ i wr => ∃ k : Nat, k ≤ l.length ∧ i = iV k ∧ Keep (fun _ => False) w0 wr ∧ partsC cs [] l = partsC cs ((l.take k).map (·.comp)) (l.drop k)) (fun _ _ _ i _ => l.length + 1 - (intOf i).toNat)
  case atStart => exact ⟨0, by omega, rfl, Keep.refl _ _, rfl⟩
  case round =>
    obtain ⟨k, hk, rfl, hkeep, hpc⟩ := hrel
    have HK := hid hkeep; have HPC := hid hpc
    clear hkeep hpc
    by_cases hlt : k < l.length
    · obtain ⟨x, hx⟩ : ∃ x, l[k]? = some x := ⟨l[k], by simp [hlt]⟩
      obtain ⟨b, off, fq, fk, rfl, hb, c0, c1, hle, hxp⟩ := PP.at (PP.low HV.out (Low.keep0 HK.out)) hx
      have hin : (0 : Int) ≤ (k : Int) ∧ (k : Int) < (l.length : Int) := ⟨by omega, by omega⟩
      have hin0 : (0 : Int) ≤ (k : Int) ∧ (k : Int) ≤ (qc : Int) := ⟨by omega, by omega⟩
      have hpn : partsC cs [] l = (if ((l.take k).map (·.comp)).any (fun c => decide (c = x.comp)) = true then 1 else if partC cs x = 0 then partsC cs ((l.take (k + 1)).map (·.comp)) (l.drop (k + 1)) else partC cs x) := by
        rw [HPC.out, drop_next hx, take_next hx, List.map_append]; rfl
      have hxv := HVL.out x (List.mem_of_getElem? hx)
      have hk2 := (Keep.refl (fun _ => False) wr).alloc (.cells #[.int .i64 x.comp, .slice fq x.vals.length fk] 59)
      have HK2 := hid (HK.out.trans hk2)
      have HCB := hid (heap_alloc_new wr (.cells #[.int .i64 x.comp, .slice fq x.vals.length fk] 59))
      have HPN := hid hpn; have HXV := hid hxv
      have HXP := hid (XP.low hxp (Low.of_keep hk2 HK.out.size (fun _ h => h.elim)))
      have HTL : Hid ((l.take k).length = k) := hid (by rw [List.length_take]; omega)
      clear hx hpn hxv hxp hk2 HPC
      go_upto_region 4 with fail
      generalize wr.alloc (.cells #[.int .i64 x.comp, .slice fq x.vals.length fk] 59) = wa at *
      have HPT := hid (PP.mono (PP.low (PP.take HV.out k) (Low.keep0 HK2.out)) HK2.out.size)
      generalize wr.heap.size = cb at *
      have HC : Hid (wa.cell? ⟨cb, 0, none⟩ = some (.int .i64 x.comp)) := hid (cell_of HCB.out (by rfl))
      clear c0 c1
      go_wp2_with fail
      refine (contains_parts x.comp cb (l.take k) k _ qc _ HTL.out (by omega) HPT.out HC.out).mono ?_
      rintro r w1 ⟨rfl, hk1⟩
      have HK1 := hid (HK2.out.trans hk1)
      have HCB1 := hid (hk1.get HCB.out (fun h => h))
      have HXP1 := hid (XP.mono (XP.low HXP.out (Low.of_keep hk1 HK2.out.size (fun _ h => h.elim))) HK1.out.size)
      clear hk1
      generalize ((l.take k).map (·.comp)).any (fun c => decide (c = x.comp)) = bb at *
      cases bb
      rotate_left
      · have G : Hid (partsC cs [] l = 1) := hid (by rw [HPN.out]; rfl)
        go_wp2
        go_ret
        exact ⟨by rw [G.out]; rfl, HK0.out.trans HK1.out⟩
      have HPN2 : Hid (partsC cs [] l = if partC cs x = 0 then partsC cs ((l.take (k + 1)).map (·.comp)) (l.drop (k + 1)) else partC cs x) := hid (by rw [HPN.out]; rfl)
      clear HPN
      have e0 : w1.cell? ⟨cb, 0, none⟩ = some (.int .i64 x.comp) := cell_of HCB1.out (by rfl)
      have e1 : w1.cell? ⟨cb, 1, none⟩ = some (.slice fq x.vals.length fk) := cell_of HCB1.out (by rfl)
      have e2 : w1.cell? ⟨sb, 0, none⟩ = some (.int .i64 v) := cell_of (HK1.out.get HB0.out (fun h => h)) (by rfl)
      have e3 : w1.cell? ⟨sb, 1, none⟩ = some (.slice p cs.length cap) := cell_of (HK1.out.get HB0.out (fun h => h)) (by rfl)
      have HF1 := hid (CP.mono (CP.low HF.out (Low.keep0 HK1.out)) HK1.out.size)
      go_wp2_with fail
      refine (check_partU v cs p cap x fq fk _ HL.out hle HXV.out HF1.out HXP1.out).mono ?_
      rintro r w2 ⟨rfl, hk2⟩
      have HK3 := hid (HK1.out.trans hk2)
      clear hk2 e0 e1 e2 e3
      generalize hz : partC cs x = z at *
      clear hz
      by_cases h0 : z = 0
      · have g1 : ((z : Int) == 0) = true := beq_iff_eq.2 (by omega)
        have g2 : (z == 0) = true := beq_iff_eq.2 h0
        have g3 : ((z : Int) != 0) = false := by rw [bne, g1]; rfl
        have g4 : (z != 0) = false := by rw [bne, g2]; rfl
        have G := hid (HPN2.out.trans (if_pos h0))
        clear h0 HPN2
        go_wp2
        go_roundw
        case rel => exact ⟨k + 1, by omega, by go_num, HK3.out, G.out⟩
        case measure => simp [intOf]; omega
      · have g1 : ((z : Int) == 0) = false := beq_eq_false_iff_ne.2 (by omega)
        have g2 : (z == 0) = false := beq_eq_false_iff_ne.2 h0
        have g3 : ((z : Int) != 0) = true := by rw [bne, g1]; rfl
        have g4 : (z != 0) = true := by rw [bne, g2]; rfl
        have G := hid (HPN2.out.trans (if_neg h0))
        clear h0 HPN2
        go_wp2
        go_ret
        exact ⟨by rw [G.out]; rfl, HK0.out.trans HK3.out⟩
    · obtain rfl : k = l.length := by omega
      have G : Hid (partsC cs [] l = 0) := hid (by rw [HPC.out, List.drop_length]; rfl)
      go_wp2
      go_ret
      exact ⟨by rw [G.out]; rfl, HK0.out.trans HK.out⟩

theorem check_parts (v : Int) (cs : List Cmp) (p : Option Addr) (cap : Nat) (l : List Prt) (q : Option Addr) (qc : Nat) (w : World) (hl : Small cs) (hll : l.length ≤ 65536) (hqc : l.length ≤ qc) (hvl : ∀ x ∈ l, x.vals.length ≤ 65536 ∧ ∀ y ∈ x.vals, y.fit) (hf : CP w w.heap.size p cs) (hv : PP w w.heap.size q l) :
    Calls Try.prog 50 #[.agg #[.int .i64 v, .slice p cs.length cap], .slice q l.length qc] w fun r w' => r = .returned (iV (partsC cs [] l)) ∧ Keep (fun _ => False) w w' := check_partsU v cs p cap l q qc w hl hll hqc (fun x hx => (hvl x hx).2) hf hv
end Go.Proofs.Ytfehiclbcebnoaa

namespace Go.Proofs.Ytfehiclbcebnoaa
open Go.RowKit Go.Proofs.Heap Go.Proofs.Sch Go.Proofs.Wide

abbrev isId (id : Int) : Cmp → Bool := fun c => decide (c.id = id)
/-- The fields of a component, by its id. -/
def fsOf (cs : List Cmp) (id : Int) : List Fld := match cs.find? (fun c => decide (c.id = id)) with | some c => c.fs | none => []
/-- A part's bytes, parts' bytes, and their error. -/
def prtL (cs : List Cmp) (x : Prt) : List UInt8 := leL 1 (u64N x.comp) ++ packL (fsOf cs x.comp) x.vals
def risesB : List Prt → Bool
  | a :: b :: r => decide (a.comp ≤ b.comp) && risesB (b :: r)
  | _ => true
def prtsC (v : Int) (cs : List Cmp) (l : List Prt) : Nat := if checkC v cs = 0 then (if partsC cs [] l = 0 then (if risesB l = true then 0 else 4) else partsC cs [] l) else checkC v cs
def prtsL (cs : List Cmp) (l : List Prt) : List UInt8 := leL 1 l.length ++ l.flatMap (prtL cs)
def encP (v : Int) (cs : List Cmp) (l : List Prt) : ByteArray := if prtsC v cs l = 0 then ⟨(prtsL cs l).toArray⟩ else ⟨#[]⟩
/-- Bytes read, a part read, parts read. -/
def rdRaw (k : Nat) (st : St) : ByteArray × St := if st.2 = false ∧ k ≤ st.1.size then (st.1.extract 0 k, (st.1.extract k st.1.size, false)) else (⟨#[]⟩, (st.1, true))
def rdPt (cs : List Cmp) (st : St) : (Prt × Bool) × St :=
  match cs.find? (fun c => decide (c.id = ((rdN 1 st).1 : Int))) with
  | none => ((⟨((rdN 1 st).1 : Int), []⟩, false), (rdN 1 st).2)
  | some k => ((⟨((rdN 1 st).1 : Int), unV k.fs (rdRaw (ofSize k.fs) (rdN 1 st).2).1⟩, decide (unE k.fs (rdRaw (ofSize k.fs) (rdN 1 st).2).1 = 0) && !(rdRaw (ofSize k.fs) (rdN 1 st).2).2.2), (rdRaw (ofSize k.fs) (rdN 1 st).2).2)
def rdPs (cs : List Cmp) : Nat → St → Option (List Prt × St)
  | 0, st => some ([], st)
  | n + 1, st => if (rdPt cs st).1.2 = true then (rdPs cs n (rdPt cs st).2).map (fun p => ((rdPt cs st).1.1 :: p.1, p.2)) else none
def ptsOf (cs : List Cmp) (s : ByteArray) : Option (List Prt × St) := rdPs cs (rdN 1 (s, false)).1 (rdN 1 (s, false)).2
def goodP (v : Int) (cs : List Cmp) (s : ByteArray) : Bool := match ptsOf cs s with | some (l, st) => (!st.2 && decide (st.1.size = 0)) && decide (prtsC v cs l = 0) | none => false
def decPL (v : Int) (cs : List Cmp) (s : ByteArray) : List Prt := match ptsOf cs s with | some (l, _) => if goodP v cs s = true then l else [] | none => []
def decPE (v : Int) (cs : List Cmp) (s : ByteArray) : Nat := if checkC v cs = 0 then (if goodP v cs s = true then 0 else 4) else checkC v cs

theorem rdRaw_app {l : List UInt8} {k : Nat} (h : l.length = k) (r : List UInt8) : rdRaw k (bsB (l ++ r), false) = (bsB l, (bsB r, false)) := by
  subst h
  unfold rdRaw
  rw [if_pos ⟨rfl, by rw [bs_size, List.length_append]; exact Nat.le_add_right _ _⟩]
  rw [bs_ext, bs_drop, List.drop_zero, Nat.sub_zero, List.take_left' rfl, List.drop_left' rfl]
theorem rdRaw_un {k : Nat} {st : St} {t s' : ByteArray} (h : rdRaw k st = (t, (s', false))) : st.2 = false ∧ st.1.data.toList = t.data.toList ++ s'.data.toList := by
  obtain ⟨s, bad⟩ := st
  obtain ⟨l, rfl⟩ : ∃ l, s = bsB l := ⟨_, (bs_of s).symm⟩
  unfold rdRaw at h
  split at h
  next hc =>
    rw [bs_drop, bs_ext, List.drop_zero, Nat.sub_zero] at h
    simp only [Prod.mk.injEq, and_true] at h
    obtain ⟨rfl, rfl⟩ := h
    refine ⟨hc.1, ?_⟩
    rw [bs_list, bs_list, bs_list, List.take_append_drop]
  · simp only [Prod.mk.injEq, Bool.true_eq_false, and_false] at h
theorem rdRaw_size (k : Nat) (st : St) : (rdRaw k st).2.1.size ≤ st.1.size := by
  unfold rdRaw
  split
  · rw [ByteArray.size_extract]; omega
  · exact Nat.le_refl _
theorem rdPt_size (cs : List Cmp) (st : St) : (rdPt cs st).2.1.size ≤ st.1.size := by
  have h1 := rdN_size 1 st
  unfold rdPt
  split
  · exact h1
  next k _ => exact Nat.le_trans (rdRaw_size (ofSize k.fs) (rdN 1 st).2) h1
theorem partC_find {cs : List Cmp} {x : Prt} (h : partC cs x = 0) : ∃ c, cs.find? (fun c => decide (c.id = x.comp)) = some c ∧ c ∈ cs ∧ c.id = x.comp ∧ fsOf cs x.comp = c.fs ∧ fitC c.fs x.vals = 0 := by
  unfold partC at h
  cases e : cs.find? (fun c => decide (c.id = x.comp)) with
  | none => rw [e] at h; simp only at h; omega
  | some c =>
    rw [e] at h
    refine ⟨c, rfl, List.mem_of_find?_eq_some e, ?_, ?_, h⟩
    · have := List.find?_some e; simpa using this
    · unfold fsOf; rw [e]
theorem partsC_all {cs : List Cmp} : ∀ (seen : List Int) (l : List Prt), partsC cs seen l = 0 → ∀ x ∈ l, partC cs x = 0
  | _, [], _, x, hx => by cases hx
  | seen, y :: r, h, x, hx => by
    rw [partsC] at h
    split at h
    · omega
    · split at h
      next h1 =>
        rcases List.mem_cons.1 hx with rfl | hx
        · exact h1
        · exact partsC_all _ r h x hx
      next h1 => exact absurd h h1
theorem ofSize_ok {fs : List Fld} (h : layC fs = 0) : ofSize fs = pSize fs := if_pos h
theorem prtsC_ok {v : Int} {cs : List Cmp} {l : List Prt} (h : prtsC v cs l = 0) : checkC v cs = 0 ∧ partsC cs [] l = 0 ∧ risesB l = true := by
  unfold prtsC at h
  split at h
  next h1 =>
    split at h
    next h2 =>
      split at h
      next h3 => exact ⟨h1, h2, h3⟩
      · omega
    next h2 => exact absurd h h2
  next h1 => exact absurd h h1
theorem rdPt_app {v : Int} {cs : List Cmp} (hc : checkC v cs = 0) {x : Prt} (h : partC cs x = 0) (r : List UInt8) : rdPt cs (bsB (prtL cs x ++ r), false) = ((x, true), (bsB r, false)) := by
  obtain ⟨c, hf, hm, hi, hfs, hz⟩ := partC_find h
  have hcs := (sch_ok hc).2.2 c hm
  have h1 := hcs.1
  rw [hi] at h1
  obtain ⟨hl0, _, _⟩ := fitC_zero hz
  have p1 : u64N x.comp < 256 ^ 1 := by unfold u64N; omega
  have q1 : (u64N x.comp : Int) = x.comp := by unfold u64N; omega
  have hb := back_yes hz
  rw [packS_ok hz] at hb
  have e1 : rdN 1 (bsB (prtL cs x ++ r), false) = (u64N x.comp, (bsB (packL c.fs x.vals ++ r), false)) := by
    unfold prtL; rw [hfs, List.append_assoc, rdN_app p1]
  unfold rdPt
  rw [e1]
  simp only [q1, hf]
  rw [ofSize_ok hl0, rdRaw_app (packL_len hz)]
  have hb1 : unE c.fs (bsB (packL c.fs x.vals)) = 0 := hb.1
  have hb2 : unV c.fs (bsB (packL c.fs x.vals)) = x.vals := hb.2
  simp only [hb1, hb2]
  rfl
theorem rdPt_un {cs : List Cmp} {st : St} {x : Prt} {s' : ByteArray} (h : rdPt cs st = ((x, true), (s', false))) : st.2 = false ∧ st.1.data.toList = prtL cs x ++ s'.data.toList := by
  obtain ⟨⟨n, sa⟩, ea⟩ : ∃ x, rdN 1 st = x := ⟨_, rfl⟩
  have l1 := rdN_lt 1 st; rw [ea] at l1
  simp only at l1
  unfold rdPt at h
  rw [ea] at h
  simp only at h
  cases e : cs.find? (fun c => decide (c.id = (n : Int))) with
  | none => rw [e] at h; simp at h
  | some c =>
    rw [e] at h
    obtain ⟨⟨t, sb⟩, eb⟩ : ∃ y, rdRaw (ofSize c.fs) sa = y := ⟨_, rfl⟩
    simp only [eb, Prod.mk.injEq, Bool.and_eq_true, decide_eq_true_eq, Bool.not_eq_true'] at h
    obtain ⟨⟨rfl, h2, h3⟩, h4⟩ := h
    subst h4
    have hr := rdRaw_un eb
    have h1 := rdN_un (ea.trans (Prod.ext rfl (Prod.ext rfl hr.1)))
    obtain ⟨k1, k2⟩ := back_bytes h2
    have e2 : (packL c.fs (unV c.fs t)) = t.data.toList := by rw [packS_ok k1] at k2; exact congrArg (fun b : ByteArray => b.data.toList) k2
    refine ⟨h1.1, ?_⟩
    have hfs : fsOf cs (n : Int) = c.fs := by unfold fsOf; rw [e]
    unfold prtL
    simp only [hfs, e2, u64N_nat (show n < 18446744073709551616 by omega)]
    rw [h1.2, hr.2, List.append_assoc]
theorem rdPs_app {v : Int} {cs : List Cmp} (hc : checkC v cs = 0) : ∀ (l : List Prt), (∀ x ∈ l, partC cs x = 0) → ∀ r : List UInt8, rdPs cs l.length (bsB (l.flatMap (prtL cs) ++ r), false) = some (l, (bsB r, false))
  | [], _, r => rfl
  | x :: l, h, r => by
    rw [List.length_cons, rdPs, List.flatMap_cons, List.append_assoc, rdPt_app hc (h x (List.mem_cons_self ..))]
    rw [if_pos rfl, rdPs_app hc l (fun y hy => h y (List.mem_cons_of_mem _ hy)) r]
    rfl
theorem rdPs_un {cs : List Cmp} : ∀ (n : Nat) (st : St) (l : List Prt) (s' : ByteArray), rdPs cs n st = some (l, (s', false)) → st.2 = false ∧ l.length = n ∧ st.1.data.toList = l.flatMap (prtL cs) ++ s'.data.toList
  | 0, st, l, s', h => by
    rw [rdPs] at h
    obtain ⟨s, bad⟩ := st
    injection h with h
    simp only [Prod.mk.injEq] at h
    obtain ⟨rfl, rfl, rfl⟩ := h
    exact ⟨rfl, rfl, rfl⟩
  | n + 1, st, l, s', h => by
    rw [rdPs] at h
    split at h
    next h1 =>
      obtain ⟨p, hp, he⟩ := Option.map_eq_some_iff.1 h
      obtain ⟨l2, st2⟩ := p
      simp only [Prod.mk.injEq] at he
      obtain ⟨rfl, rfl⟩ := he
      obtain ⟨k1, k2, k3⟩ := rdPs_un n (rdPt cs st).2 l2 s' hp
      have k4 := rdPt_un (st := st) (x := (rdPt cs st).1.1) (s' := (rdPt cs st).2.1) (Prod.ext (Prod.ext rfl h1) (Prod.ext rfl k1))
      refine ⟨k4.1, by rw [List.length_cons, k2], ?_⟩
      rw [k4.2, k3, List.flatMap_cons, List.append_assoc]
    · cases h
theorem ptsOf_enc {v : Int} {cs : List Cmp} {l : List Prt} (h : prtsC v cs l = 0) (hl : l.length < 256) (r : List UInt8) : ptsOf cs (bsB (prtsL cs l ++ r)) = some (l, (bsB r, false)) := by
  obtain ⟨h1, h2, _⟩ := prtsC_ok h
  unfold ptsOf prtsL
  rw [List.append_assoc, rdN_app (show l.length < 256 ^ 1 by omega)]
  exact rdPs_app h1 l (partsC_all [] l h2) r
theorem enc_pts {cs : List Cmp} {s : ByteArray} {l : List Prt} {s' : ByteArray} (h : ptsOf cs s = some (l, (s', false))) : s.data.toList = prtsL cs l ++ s'.data.toList ∧ l.length < 256 := by
  unfold ptsOf at h
  obtain ⟨⟨n, sa⟩, ea⟩ : ∃ x, rdN 1 (s, false) = x := ⟨_, rfl⟩
  rw [ea] at h
  simp only at h
  have l1 := rdN_lt 1 (s, false); rw [ea] at l1
  simp only at l1
  obtain ⟨k1, k2, k3⟩ := rdPs_un n sa l s' h
  have h1 := rdN_un (ea.trans (Prod.ext rfl (Prod.ext rfl k1)))
  refine ⟨?_, by omega⟩
  have e : s.data.toList = _ := h1.2
  unfold prtsL
  rw [e, k3, k2, List.append_assoc]
theorem goodP_enc {v : Int} {cs : List Cmp} {l : List Prt} (h : prtsC v cs l = 0) (hl : l.length < 256) : goodP v cs (bsB (prtsL cs l)) = true ∧ decPL v cs (bsB (prtsL cs l)) = l ∧ decPE v cs (bsB (prtsL cs l)) = 0 := by
  have h1 := ptsOf_enc h hl []
  rw [List.append_nil] at h1
  have hg : goodP v cs (bsB (prtsL cs l)) = true := by unfold goodP; rw [h1]; simp [h, bs_size]
  refine ⟨hg, ?_, ?_⟩
  · unfold decPL; rw [h1]; simp only [hg, if_true]
  · unfold decPE; rw [if_pos (prtsC_ok h).1, if_pos hg]
theorem decP_more {v : Int} {cs : List Cmp} {l : List Prt} (h : prtsC v cs l = 0) (hl : l.length < 256) (m : UInt8) : decPE v cs (encP v cs l ++ ⟨#[m]⟩) = 4 := by
  have e : encP v cs l ++ ⟨#[m]⟩ = bsB (prtsL cs l ++ [m]) := by
    unfold encP; rw [if_pos h]
    apply ByteArray.ext
    apply Array.toList_inj.1
    rw [ByteArray.data_append, Array.toList_append]; rfl
  rw [e]
  have hg : goodP v cs (bsB (prtsL cs l ++ [m])) = false := by unfold goodP; rw [ptsOf_enc h hl [m]]; simp [bs_size]
  unfold decPE; rw [if_pos (prtsC_ok h).1, hg]; rfl
theorem decP_less {v : Int} {cs : List Cmp} {l : List Prt} (h : prtsC v cs l = 0) (hl : l.length < 256) : decPE v cs ((encP v cs l).extract 0 ((encP v cs l).size - 1)) = 4 := by
  have e0 : encP v cs l = bsB (prtsL cs l) := if_pos h
  have hp : 1 ≤ (prtsL cs l).length := by unfold prtsL; simp only [List.length_append, leL_len]; omega
  have e : (encP v cs l).extract 0 ((encP v cs l).size - 1) = bsB ((prtsL cs l).take ((prtsL cs l).length - 1)) := by
    rw [e0, bs_ext, bs_size, List.drop_zero, Nat.sub_zero]
  rw [e]
  have hd : (prtsL cs l).drop ((prtsL cs l).length - 1) = [(prtsL cs l)[(prtsL cs l).length - 1]] := by
    rw [List.drop_eq_getElem_cons (by omega), List.drop_of_length_le (by omega)]
  obtain ⟨b, hb⟩ : ∃ b, (prtsL cs l)[(prtsL cs l).length - 1] = b := ⟨_, rfl⟩
  rw [hb] at hd
  obtain ⟨s, hs⟩ : ∃ s, bsB ((prtsL cs l).take ((prtsL cs l).length - 1)) = s := ⟨_, rfl⟩
  have hsl : prtsL cs l = s.data.toList ++ [b] := by rw [← hs, bs_list, ← hd, List.take_append_drop]
  rw [hs]
  have hg : goodP v cs s = false := by
    cases hg : goodP v cs s
    · rfl
    · exfalso
      unfold goodP at hg
      cases ho : ptsOf cs s with
      | none => rw [ho] at hg; cases hg
      | some q =>
        obtain ⟨l2, st2⟩ := q
        rw [ho] at hg
        simp only [Bool.and_eq_true, decide_eq_true_eq, Bool.not_eq_true'] at hg
        obtain ⟨⟨k1, k2⟩, k3⟩ := hg
        have k4 := enc_pts (ho.trans (congrArg some (Prod.ext rfl (Prod.ext rfl k1))))
        have k5 : st2.1.data.toList = [] := List.eq_nil_of_length_eq_zero (by rw [Array.length_toList]; exact k2)
        rw [k5, List.append_nil] at k4
        have h1 := ptsOf_enc k3 k4.2 [b]
        rw [← k4.1, ← hsl] at h1
        have h2 := ptsOf_enc h hl []
        rw [List.append_nil, h1] at h2
        injection h2 with h2
        have h3 := congrArg (fun p : List Prt × St => p.2.1.size) h2
        simp [bs_size] at h3
  unfold decPE; rw [if_pos (prtsC_ok h).1, hg]; rfl
end Go.Proofs.Ytfehiclbcebnoaa
