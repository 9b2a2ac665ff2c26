/- What is proved: what Find and Named of a schema answer. -/
import Derived.Test.YtdekdefjfaoclaaDoorSchFind
namespace Go.Proofs.YtdekdefjfaoclaaDoor
open Go.RowKit Go.Proofs.Heap Go.Proofs.Sch

theorem idx_cases {α : Type} (q : α → Bool) (l : List α) : idxI q l = -1 ∨ ∃ (k : Nat) (x : α), idxI q l = (k : Int) ∧ l[k]? = some x ∧ q x = true ∧ k < l.length := by
  unfold idxI
  cases h : l.findIdx? q with
  | none => exact .inl rfl
  | some k =>
    obtain ⟨hk, h1, _⟩ := List.findIdx?_eq_some_iff_getElem.1 h
    exact .inr ⟨k, l[k], rfl, List.getElem?_eq_getElem hk, h1, hk⟩

/-- What a search answers: the first one, with a row of its own, or none. -/
def Found (B : Nat) (w' : World) (q : Cmp → Bool) (cs : List Cmp) (r : Ending) : Prop :=
  (∃ (k : Nat) (c : Cmp) (p : Option Addr) (z : Nat), idxI q cs = (k : Int) ∧ cs[k]? = some c ∧ q c = true ∧ r = .returned (.tuple #[.agg #[.int .i64 c.id, .string c.name, .slice p c.fs.length z], .bool true]) ∧ c.fs.length ≤ z ∧ w'.ownsRow B 53 3 (.slice p c.fs.length z) c.fs.length (c.fs.flatMap fcl)) ∨
  (idxI q cs = -1 ∧ r = .returned (.tuple #[.agg #[.int .i64 0, .string ⟨#[]⟩, .slice none 0 0], .bool false]))

set_option maxRecDepth 20000 in
set_option maxHeartbeats 2000000 in
theorem find_id (id : Int) (cb : Nat) (v : Int) (cs : List Cmp) (p : Option Addr) (cap : Nat) (w : World) (hl : Small cs) (hf : CP w w.heap.size p cs) (hc : w.cell? ⟨cb, 0, none⟩ = some (.int .i64 id)) :
    Calls Tryd.prog 32 #[.agg #[.int .i64 v, .slice p cs.length cap], .func (.func 33) #[] #[.pointer (some ⟨cb, 0, none⟩)]] w fun r w' => Found w.heap.size w' (fun c => decide (c.id = id)) cs r ∧ Keep (fun _ => False) w w' := by
  have hk0 := ((Keep.refl (fun _ => False) w).alloc (.cells #[.int .i64 v, .slice p cs.length cap] 24)).alloc (.cells #[.int .i64 0, .string ⟨#[]⟩, .slice none 0 0] 46)
  have hb1 := ((Keep.refl (fun _ => False) (w.alloc (.cells #[.int .i64 v, .slice p cs.length cap] 24))).alloc (.cells #[.int .i64 0, .string ⟨#[]⟩, .slice none 0 0] 46)).get (heap_alloc_new w (.cells #[.int .i64 v, .slice p cs.length cap] 24)) (fun h => h)
  have hb2 := heap_alloc_new (w.alloc (.cells #[.int .i64 v, .slice p cs.length cap] 24)) (.cells #[.int .i64 0, .string ⟨#[]⟩, .slice none 0 0] 46)
  have hsz : (w.alloc (.cells #[.int .i64 v, .slice p cs.length cap] 24)).heap.size = w.heap.size + 1 := by simp
  rw [hsz] at hb2
  have hlow := Low.keep0 hk0
  have hc2 := (hlow.cell (o := 0) (World.block_lt_of_cell? w _ hc)).trans hc
  have HC2 := hid hc2
  have HF := hid (CP.mono (CP.low hf hlow) hk0.size)
  have HK0 := hid hk0; have HB1 := hid hb1; have HB2 := hid hb2
  have HL := hid hl
  have hl1 := hl.1
  have hsq := hk0.size
  clear hl hf hb1 hb2 hk0 hsz hlow hc hc2 hsq
  go_enter Tryd.func32, Tryd.ntmps32
  go_upto_region 1 with fail
  generalize (w.alloc (.cells #[.int .i64 v, .slice p cs.length cap] 24)).alloc (.cells #[.int .i64 0, .string ⟨#[]⟩, .slice none 0 0] 46) = w0 at *
  have HSB : Hid (w.heap.size + 1 < w0.heap.size) := hid (lt_of_heap HB2.out)
  generalize hsb : w.heap.size = sb at *
  have d1 : w0.cell? ⟨sb, 1, none⟩ = some (.slice p cs.length cap) := cell_of HB1.out (by rfl)
  go_wp2_with fail
  refine (idx_find id cb cs p cap _ hl1 HF.out HC2.out).mono ?_
  rintro r w1 ⟨rfl, hk1⟩
  have HK1 := hid (HK0.out.trans hk1)
  have HB1' := hid (hk1.get HB1.out (fun h => h)); have HB2' := hid (hk1.get HB2.out (fun h => h))
  have HF1 := hid (CP.mono (CP.low HF.out (Low.keep0 hk1)) hk1.size)
  have HS1 := hid (Nat.lt_of_lt_of_le HSB.out hk1.size)
  clear hk1 d1
  have HCS := hid (idx_cases (fun c => decide (c.id = id)) cs)
  generalize hz : idxI (fun c => decide (c.id = id)) cs = z at *
  have HZ := hid hz
  clear hz
  rcases HCS.out with h | ⟨k, c, h, hck, hqc, hkl⟩
  · subst h
    have c0 := cell_of HB2'.out (i := 0) (by rfl)
    have c1 := cell_of HB2'.out (i := 1) (by rfl)
    have c2 := cell_of HB2'.out (i := 2) (by rfl)
    have f0 := free_of HB2'.out 0
    have f1 := free_of HB2'.out 1
    have f2 := free_of HB2'.out 2
    have g1 : decide ((-1 : Int) < 0) = true := by decide
    go_wp2
    (try simp only [Exit.inBlock, Exit.then])
    refine bodyPost_ret (results_ct rfl _ rfl (run_loadVar_row _ (sb + 1) _ 46 _ _ _ (cells3 (.int .i64 0) (.string ⟨#[]⟩) (.slice none 0 0) HB2'.out) Tryd.underlying46 rfl (by kernel_rfl))) rfl ?_
    exact ⟨.inr ⟨HZ.out, rfl⟩, ((HK1.out.setCell_new (by simp [hsb]) _).setCell_new (by simp [hsb]) _).setCell_new (by simp [hsb]) _⟩
  · subst h
    have g1 : decide ((k : Int) < 0) = false := decide_eq_false (by omega)
    obtain ⟨b, off, fq, fk, rfl, hb, c0, c1, c2, hle, hff⟩ := CP.at HF1.out hck
    have hin : (0 : Int) ≤ (k : Int) ∧ (k : Int) < (cs.length : Int) := ⟨by omega, by omega⟩
    have hxl := HL.out.2 c (List.mem_of_getElem? hck)
    have d1 : w1.cell? ⟨sb, 1, none⟩ = some (.slice (some ⟨b, off, none⟩) cs.length cap) := cell_of HB1'.out (by rfl)
    have hk2 := (Keep.refl (fun _ => False) w1).alloc (.cells #[.int .i64 c.id, .string c.name, .slice fq c.fs.length fk] 46)
    have HFF := hid (FP.mono (FP.low hff (Low.keep0 hk2)) hk2.size)
    have HCB := hid (heap_alloc_new w1 (.cells #[.int .i64 c.id, .string c.name, .slice fq c.fs.length fk] 46))
    have HK2 := hid (HK1.out.trans hk2); have HB3 := hid (hk2.get HB2'.out (fun h => h))
    have HCK := hid hck; have HQC := hid hqc
    clear hff hk2 hck hqc
    go_wp2_with fail
    generalize w1.alloc (.cells #[.int .i64 c.id, .string c.name, .slice fq c.fs.length fk] 46) = wa at *
    have hqs := HS1.out
    have HQN : Hid (w1.heap.size ≠ sb + 1) := hid (by omega)
    have HSQ := hid (Nat.le_trans HK1.out.size (Nat.le_refl _))
    generalize w1.heap.size = q at *
    refine (clone_fields c.fs fq fk _ hxl HFF.out).mono ?_
    rintro r w3 ⟨p2, z2, rfl, hz2, hown, hk3⟩
    have HK3 := hid (HK2.out.trans hk3)
    have HCB3 := hid (hk3.get HCB.out (fun h => h)); have HB4 := hid (hk3.get HB3.out (fun h => h))
    have HOWN := hid hown
    have HLQ := hid (lt_of_heap HCB.out)
    have e0 := cell_of HCB3.out (i := 0) (by rfl)
    have e1 := cell_of HCB3.out (i := 1) (by rfl)
    have e2 := cell_of HCB3.out (i := 2) (by rfl)
    have e3 := free_of HCB3.out 2
    have c0 := cell_of HB4.out (i := 0) (by rfl)
    have c1 := cell_of HB4.out (i := 1) (by rfl)
    have c2 := cell_of HB4.out (i := 2) (by rfl)
    have f0 := free_of HB4.out 0
    have f1 := free_of HB4.out 1
    have f2 := free_of HB4.out 2
    have HWS : Hid (wa.heap.size ≤ w3.heap.size) := hid hk3.size
    have HW1 : Hid (w.heap.size ≤ w3.heap.size) := hid HK3.out.size
    clear hk3 hown
    go_wp2
    (try simp only [Exit.inBlock, Exit.then])
    have hr := cells3 (.int .i64 c.id) (.string c.name) (.slice p2 c.fs.length z2) ((hsc_ne (w := w3) (g := q) (i := 2) (k := sb + 1) (.slice p2 c.fs.length z2) (by have := HQN.out; omega)).trans HB4.out)
    refine bodyPost_ret (results_ct rfl _ rfl (run_loadVar_row _ (sb + 1) _ 46 _ _ _ hr Tryd.underlying46 rfl (by kernel_rfl))) rfl ?_
    refine ⟨.inl ⟨k, c, p2, z2, HZ.out, HCK.out, HQC.out, rfl, hz2, ?_⟩, (((HK3.out.setCell_new (by have := HSQ.out; simp [hsb] at this ⊢; omega) _).setCell_new (by simp [hsb]) _).setCell_new (by simp [hsb]) _).setCell_new (by simp [hsb]) _⟩
    have ho := owns_keep (w' := (((w3.setCell ⟨q, 2, none⟩ (.slice p2 c.fs.length z2)).setCell ⟨sb + 1, 0, none⟩ (.int .i64 c.id)).setCell ⟨sb + 1, 1, none⟩ (.string c.name)).setCell ⟨sb + 1, 2, none⟩ (.slice p2 c.fs.length z2)) HOWN.out (fun g hg => by
      have h1 := (HOWN.out.lt g hg).1
      have h2 := HLQ.out; have h3 := HSQ.out; have h4 := hqs
      rw [hsc_ne _ (by omega), hsc_ne _ (by omega), hsc_ne _ (by omega), hsc_ne _ (by omega)])
    exact owns_mono ho (by have := HSQ.out; have := HLQ.out; omega)

set_option maxRecDepth 20000 in
set_option maxHeartbeats 1000000 in
theorem sch_find (id : Int) (v : Int) (cs : List Cmp) (p : Option Addr) (cap : Nat) (w : World) (hl : Small cs) (hf : CP w w.heap.size p cs) :
    Calls Tryd.prog 21 #[.agg #[.int .i64 v, .slice p cs.length cap], .int .i64 id] w fun r w' => Found w.heap.size w' (fun c => decide (c.id = id)) cs r ∧ Keep (fun _ => False) w w' := by
  have hk0 : Keep (fun _ => False) w (((w.alloc (.cells #[.int .i64 v, .slice p cs.length cap] 24)).alloc (.cells #[.int .i64 id] 3)).alloc (.cells #[.int .i64 0, .string ⟨#[]⟩, .slice none 0 0] 46)) := (((Keep.refl (fun _ => False) w).alloc _).alloc _).alloc _
  have hb1 : (((w.alloc (.cells #[.int .i64 v, .slice p cs.length cap] 24)).alloc (.cells #[.int .i64 id] 3)).alloc (.cells #[.int .i64 0, .string ⟨#[]⟩, .slice none 0 0] 46)).heap[w.heap.size]? = some (.cells #[.int .i64 v, .slice p cs.length cap] 24 (0, 0)) := ((((Keep.refl (fun _ => False) _).alloc _).alloc _).get (heap_alloc_new w _) (fun h => h))
  have hb2 : (((w.alloc (.cells #[.int .i64 v, .slice p cs.length cap] 24)).alloc (.cells #[.int .i64 id] 3)).alloc (.cells #[.int .i64 0, .string ⟨#[]⟩, .slice none 0 0] 46)).heap[w.heap.size + 1]? = some (.cells #[.int .i64 id] 3 (0, 0)) := by
    have := (((Keep.refl (fun _ => False) ((w.alloc (.cells #[.int .i64 v, .slice p cs.length cap] 24)).alloc (.cells #[.int .i64 id] 3))).alloc (.cells #[.int .i64 0, .string ⟨#[]⟩, .slice none 0 0] 46)).get (heap_alloc_new (w.alloc (.cells #[.int .i64 v, .slice p cs.length cap] 24)) (.cells #[.int .i64 id] 3)) (fun h => h))
    simpa using this
  have hb3 : (((w.alloc (.cells #[.int .i64 v, .slice p cs.length cap] 24)).alloc (.cells #[.int .i64 id] 3)).alloc (.cells #[.int .i64 0, .string ⟨#[]⟩, .slice none 0 0] 46)).heap[w.heap.size + 2]? = some (.cells #[.int .i64 0, .string ⟨#[]⟩, .slice none 0 0] 46 (0, 0)) := by
    have := heap_alloc_new ((w.alloc (.cells #[.int .i64 v, .slice p cs.length cap] 24)).alloc (.cells #[.int .i64 id] 3)) (.cells #[.int .i64 0, .string ⟨#[]⟩, .slice none 0 0] 46)
    simpa using this
  have HF := hid (CP.mono (CP.low hf (Low.keep0 hk0)) hk0.size)
  have HK0 := hid hk0; have HB1 := hid hb1; have HB2 := hid hb2; have HB3 := hid hb3
  have HL := hid hl
  clear hl hf hb1 hb2 hb3 hk0
  go_enter Tryd.func21, Tryd.ntmps21
  go_upto_region 1 with fail
  generalize (((w.alloc (.cells #[.int .i64 v, .slice p cs.length cap] 24)).alloc (.cells #[.int .i64 id] 3)).alloc (.cells #[.int .i64 0, .string ⟨#[]⟩, .slice none 0 0] 46)) = w0 at *
  generalize hsb : w.heap.size = sb at *
  have d0 : w0.cell? ⟨sb, 0, none⟩ = some (.int .i64 v) := cell_of HB1.out (by rfl)
  have d1 : w0.cell? ⟨sb, 1, none⟩ = some (.slice p cs.length cap) := cell_of HB1.out (by rfl)
  have HC : Hid (w0.cell? ⟨sb + 1, 0, none⟩ = some (.int .i64 id)) := hid (cell_of HB2.out (by rfl))
  go_wp2_with fail
  refine (find_id id (sb + 1) v cs p cap _ HL.out HF.out HC.out).mono ?_
  rintro r w1 ⟨hr, hk1⟩
  have HK1 := hid (HK0.out.trans hk1)
  have HB4 := hid (hk1.get HB3.out (fun h => h))
  have HS := hid (lt_of_heap HB3.out)
  have HW1 : Hid (w0.heap.size ≤ w1.heap.size) := hid hk1.size
  clear hk1 d0 d1
  have c0 := cell_of HB4.out (i := 0) (by rfl)
  have c1 := cell_of HB4.out (i := 1) (by rfl)
  have c2 := cell_of HB4.out (i := 2) (by rfl)
  have f0 := free_of HB4.out 0
  have f1 := free_of HB4.out 1
  have f2 := free_of HB4.out 2
  rcases hr with ⟨k, c, p2, z, hz, hck, hqc, rfl, hle, hfp⟩ | ⟨hz, rfl⟩
  · have HZ := hid hz; have HCK := hid hck; have HFP := hid hfp; have HQC := hid hqc
    clear hz hck hfp hqc
    go_wp2
    (try simp only [Exit.inBlock, Exit.then])
    refine bodyPost_ret (results_ct rfl _ rfl (run_loadVar_row _ (sb + 2) _ 46 _ _ _ (cells3 (.int .i64 c.id) (.string c.name) (.slice p2 c.fs.length z) HB4.out) Tryd.underlying46 rfl (by kernel_rfl))) rfl ?_
    refine ⟨.inl ⟨k, c, p2, z, HZ.out, HCK.out, HQC.out, rfl, hle, ?_⟩, ((HK1.out.setCell_new (by show w.heap.size ≤ sb + 2; omega) _).setCell_new (by show w.heap.size ≤ sb + 2; omega) _).setCell_new (by show w.heap.size ≤ sb + 2; omega) _⟩
    have h2 := HS.out; have h3 := HK0.out.size
    exact owns_mono (owns_keep HFP.out (fun g hg => by
      have h1 := (HFP.out.lt g hg).1
      rw [hsc_ne _ (by omega), hsc_ne _ (by omega), hsc_ne _ (by omega)])) (by omega)
  · have HZ := hid hz
    clear hz
    go_wp2
    (try simp only [Exit.inBlock, Exit.then])
    refine bodyPost_ret (results_ct rfl _ rfl (run_loadVar_row _ (sb + 2) _ 46 _ _ _ (cells3 (.int .i64 0) (.string ⟨#[]⟩) (.slice none 0 0) HB4.out) Tryd.underlying46 rfl (by kernel_rfl))) rfl ?_
    exact ⟨.inr ⟨HZ.out, rfl⟩, ((HK1.out.setCell_new (by show w.heap.size ≤ sb + 2; omega) _).setCell_new (by show w.heap.size ≤ sb + 2; omega) _).setCell_new (by show w.heap.size ≤ sb + 2; omega) _⟩

end Go.Proofs.YtdekdefjfaoclaaDoor
