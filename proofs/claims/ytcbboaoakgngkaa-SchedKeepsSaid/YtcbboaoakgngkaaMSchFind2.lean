/- What is proved: what Find and Named of a schema answer. -/
import Derived.Test.YtcbboaoakgngkaaMSchFind
import Derived.Test.YtcbboaoakgngkaaMVf3
import Derived.Test.YtcbboaoakgngkaaMLay
namespace Go.Proofs.Ytcbboaoakgngkaa
open Go.RowKit Go.Proofs.Heap Go.Proofs.Sch

theorem idx_cases {α : Type} (q : α → Bool) (l : List α) : idxI q l = -1 ∨ ∃ (k : Nat) (x : α), idxI q l = (k : Int) ∧ l[k]? = some x ∧ q x = true ∧ k < l.length := by
  unfold idxI
  cases h : l.findIdx? q with
  | none => exact .inl rfl
  | some k =>
    obtain ⟨hk, h1, _⟩ := List.findIdx?_eq_some_iff_getElem.1 h
    exact .inr ⟨k, l[k], rfl, List.getElem?_eq_getElem hk, h1, hk⟩

/-- What a search answers: the first one, with a row of its own, or none. -/
def Found (B : Nat) (w' : World) (q : Cmp → Bool) (cs : List Cmp) (r : Ending) : Prop :=
  (∃ (k : Nat) (c : Cmp) (p : Option Addr) (z : Nat), idxI q cs = (k : Int) ∧ cs[k]? = some c ∧ q c = true ∧ r = .returned (.tuple #[.agg #[.int .i64 c.id, .string c.name, .slice p c.fs.length z], .bool true]) ∧ c.fs.length ≤ z ∧ w'.ownsRow B 69 3 (.slice p c.fs.length z) c.fs.length (c.fs.flatMap fcl)) ∨
  (idxI q cs = -1 ∧ r = .returned (.tuple #[.agg #[.int .i64 0, .string ⟨#[]⟩, .slice none 0 0], .bool false]))

set_option maxRecDepth 20000 in
set_option maxHeartbeats 2000000 in
theorem find_id (id : Int) (cb : Nat) (v : Int) (cs : List Cmp) (p : Option Addr) (cap : Nat) (w : World) (hl : Small cs) (hf : CP w w.heap.size p cs) (hc : w.cell? ⟨cb, 0, none⟩ = some (.int .i64 id)) :
    Calls Try.prog 88 #[.agg #[.int .i64 v, .slice p cs.length cap], .func (.func 89) #[] #[.pointer (some ⟨cb, 0, none⟩)]] w fun r w' => Found w.heap.size w' (fun c => decide (c.id = id)) cs r ∧ Keep (fun _ => False) w w' := by
  have hk0 := ((Keep.refl (fun _ => False) w).alloc (.cells #[.int .i64 v, .slice p cs.length cap] 36)).alloc (.cells #[.int .i64 0, .string ⟨#[]⟩, .slice none 0 0] 72)
  have hb1 := ((Keep.refl (fun _ => False) (w.alloc (.cells #[.int .i64 v, .slice p cs.length cap] 36))).alloc (.cells #[.int .i64 0, .string ⟨#[]⟩, .slice none 0 0] 72)).get (heap_alloc_new w (.cells #[.int .i64 v, .slice p cs.length cap] 36)) (fun h => h)
  have hb2 := heap_alloc_new (w.alloc (.cells #[.int .i64 v, .slice p cs.length cap] 36)) (.cells #[.int .i64 0, .string ⟨#[]⟩, .slice none 0 0] 72)
  have hsz : (w.alloc (.cells #[.int .i64 v, .slice p cs.length cap] 36)).heap.size = w.heap.size + 1 := by simp
  rw [hsz] at hb2
  have hlow := Low.keep0 hk0
  have hc2 := (hlow.cell (o := 0) (World.block_lt_of_cell? w _ hc)).trans hc
  have HC2 := hid hc2
  have HF := hid (CP.mono (CP.low hf hlow) hk0.size)
  have HK0 := hid hk0; have HB1 := hid hb1; have HB2 := hid hb2
  have HL := hid hl
  have hl1 := hl.1
  have hsq := hk0.size
  clear hl hf hb1 hb2 hk0 hsz hlow hc hc2 hsq
  go_enter Try.func88, Try.ntmps88
  go_upto_region 1 with fail
  generalize (w.alloc (.cells #[.int .i64 v, .slice p cs.length cap] 36)).alloc (.cells #[.int .i64 0, .string ⟨#[]⟩, .slice none 0 0] 72) = w0 at *
  have HSB : Hid (w.heap.size + 1 < w0.heap.size) := hid (lt_of_heap HB2.out)
  generalize hsb : w.heap.size = sb at *
  have d1 : w0.cell? ⟨sb, 1, none⟩ = some (.slice p cs.length cap) := cell_of HB1.out (by rfl)
  go_wp2_with fail
  refine (idx_find id cb cs p cap _ hl1 HF.out HC2.out).mono ?_
  rintro r w1 ⟨rfl, hk1⟩
  have HK1 := hid (HK0.out.trans hk1)
  have HB1' := hid (hk1.get HB1.out (fun h => h)); have HB2' := hid (hk1.get HB2.out (fun h => h))
  have HF1 := hid (CP.mono (CP.low HF.out (Low.keep0 hk1)) hk1.size)
  have HS1 := hid (Nat.lt_of_lt_of_le HSB.out hk1.size)
  clear hk1 d1
  have HCS := hid (idx_cases (fun c => decide (c.id = id)) cs)
  generalize hz : idxI (fun c => decide (c.id = id)) cs = z at *
  have HZ := hid hz
  clear hz
  rcases HCS.out with h | ⟨k, c, h, hck, hqc, hkl⟩
  · subst h
    have c0 := cell_of HB2'.out (i := 0) (by rfl)
    have c1 := cell_of HB2'.out (i := 1) (by rfl)
    have c2 := cell_of HB2'.out (i := 2) (by rfl)
    have f0 := free_of HB2'.out 0
    have f1 := free_of HB2'.out 1
    have f2 := free_of HB2'.out 2
    have g1 : decide ((-1 : Int) < 0) = true := by decide
    go_wp2
    (try simp only [Exit.inBlock, Exit.then])
    refine bodyPost_ret (results_ct rfl _ rfl (run_loadVar_row _ (sb + 1) _ 72 _ _ _ (cells3 (.int .i64 0) (.string ⟨#[]⟩) (.slice none 0 0) HB2'.out) Try.underlying72 rfl (by kernel_rfl))) rfl ?_
    exact ⟨.inr ⟨HZ.out, rfl⟩, ((HK1.out.setCell_new (by simp [hsb]) _).setCell_new (by simp [hsb]) _).setCell_new (by simp [hsb]) _⟩
  · subst h
    have g1 : decide ((k : Int) < 0) = false := decide_eq_false (by omega)
    obtain ⟨b, off, fq, fk, rfl, hb, c0, c1, c2, hle, hff⟩ := CP.at HF1.out hck
    have hin : (0 : Int) ≤ (k : Int) ∧ (k : Int) < (cs.length : Int) := ⟨by omega, by omega⟩
    have hxl := HL.out.2 c (List.mem_of_getElem? hck)
    have d1 : w1.cell? ⟨sb, 1, none⟩ = some (.slice (some ⟨b, off, none⟩) cs.length cap) := cell_of HB1'.out (by rfl)
    have hk2 := (Keep.refl (fun _ => False) w1).alloc (.cells #[.int .i64 c.id, .string c.name, .slice fq c.fs.length fk] 72)
    have HFF := hid (FP.mono (FP.low hff (Low.keep0 hk2)) hk2.size)
    have HCB := hid (heap_alloc_new w1 (.cells #[.int .i64 c.id, .string c.name, .slice fq c.fs.length fk] 72))
    have HK2 := hid (HK1.out.trans hk2); have HB3 := hid (hk2.get HB2'.out (fun h => h))
    have HCK := hid hck; have HQC := hid hqc
    clear hff hk2 hck hqc
    go_wp2_with fail
    generalize w1.alloc (.cells #[.int .i64 c.id, .string c.name, .slice fq c.fs.length fk] 72) = wa at *
    have hqs := HS1.out
    have HQN : Hid (w1.heap.size ≠ sb + 1) := hid (by omega)
    have HSQ := hid (Nat.le_trans HK1.out.size (Nat.le_refl _))
    generalize w1.heap.size = q at *
    refine (clone_fields c.fs fq fk _ hxl HFF.out).mono ?_
    rintro r w3 ⟨p2, z2, rfl, hz2, hown, hk3⟩
    have HK3 := hid (HK2.out.trans hk3)
    have HCB3 := hid (hk3.get HCB.out (fun h => h)); have HB4 := hid (hk3.get HB3.out (fun h => h))
    have HOWN := hid hown
    have HLQ := hid (lt_of_heap HCB.out)
    have e0 := cell_of HCB3.out (i := 0) (by rfl)
    have e1 := cell_of HCB3.out (i := 1) (by rfl)
    have e2 := cell_of HCB3.out (i := 2) (by rfl)
    have e3 := free_of HCB3.out 2
    have c0 := cell_of HB4.out (i := 0) (by rfl)
    have c1 := cell_of HB4.out (i := 1) (by rfl)
    have c2 := cell_of HB4.out (i := 2) (by rfl)
    have f0 := free_of HB4.out 0
    have f1 := free_of HB4.out 1
    have f2 := free_of HB4.out 2
    have HWS : Hid (wa.heap.size ≤ w3.heap.size) := hid hk3.size
    have HW1 : Hid (w.heap.size ≤ w3.heap.size) := hid HK3.out.size
    clear hk3 hown
    go_wp2
    (try simp only [Exit.inBlock, Exit.then])
    have hr := cells3 (.int .i64 c.id) (.string c.name) (.slice p2 c.fs.length z2) ((hsc_ne (w := w3) (g := q) (i := 2) (k := sb + 1) (.slice p2 c.fs.length z2) (by have := HQN.out; omega)).trans HB4.out)
    refine bodyPost_ret (results_ct rfl _ rfl (run_loadVar_row _ (sb + 1) _ 72 _ _ _ hr Try.underlying72 rfl (by kernel_rfl))) rfl ?_
    refine ⟨.inl ⟨k, c, p2, z2, HZ.out, HCK.out, HQC.out, rfl, hz2, ?_⟩, (((HK3.out.setCell_new (by have := HSQ.out; simp [hsb] at this ⊢; omega) _).setCell_new (by simp [hsb]) _).setCell_new (by simp [hsb]) _).setCell_new (by simp [hsb]) _⟩
    have ho := owns_keep (w' := (((w3.setCell ⟨q, 2, none⟩ (.slice p2 c.fs.length z2)).setCell ⟨sb + 1, 0, none⟩ (.int .i64 c.id)).setCell ⟨sb + 1, 1, none⟩ (.string c.name)).setCell ⟨sb + 1, 2, none⟩ (.slice p2 c.fs.length z2)) HOWN.out (fun g hg => by
      have h1 := (HOWN.out.lt g hg).1
      have h2 := HLQ.out; have h3 := HSQ.out; have h4 := hqs
      rw [hsc_ne _ (by omega), hsc_ne _ (by omega), hsc_ne _ (by omega), hsc_ne _ (by omega)])
    exact owns_mono ho (by have := HSQ.out; have := HLQ.out; omega)

set_option maxRecDepth 20000 in
set_option maxHeartbeats 1000000 in
theorem sch_find (id : Int) (v : Int) (cs : List Cmp) (p : Option Addr) (cap : Nat) (w : World) (hl : Small cs) (hf : CP w w.heap.size p cs) :
    Calls Try.prog 71 #[.agg #[.int .i64 v, .slice p cs.length cap], .int .i64 id] w fun r w' => Found w.heap.size w' (fun c => decide (c.id = id)) cs r ∧ Keep (fun _ => False) w w' := by
  have hk0 : Keep (fun _ => False) w (((w.alloc (.cells #[.int .i64 v, .slice p cs.length cap] 36)).alloc (.cells #[.int .i64 id] 3)).alloc (.cells #[.int .i64 0, .string ⟨#[]⟩, .slice none 0 0] 72)) := (((Keep.refl (fun _ => False) w).alloc _).alloc _).alloc _
  have hb1 : (((w.alloc (.cells #[.int .i64 v, .slice p cs.length cap] 36)).alloc (.cells #[.int .i64 id] 3)).alloc (.cells #[.int .i64 0, .string ⟨#[]⟩, .slice none 0 0] 72)).heap[w.heap.size]? = some (.cells #[.int .i64 v, .slice p cs.length cap] 36 (0, 0)) := ((((Keep.refl (fun _ => False) _).alloc _).alloc _).get (heap_alloc_new w _) (fun h => h))
  have hb2 : (((w.alloc (.cells #[.int .i64 v, .slice p cs.length cap] 36)).alloc (.cells #[.int .i64 id] 3)).alloc (.cells #[.int .i64 0, .string ⟨#[]⟩, .slice none 0 0] 72)).heap[w.heap.size + 1]? = some (.cells #[.int .i64 id] 3 (0, 0)) := by
    have := (((Keep.refl (fun _ => False) ((w.alloc (.cells #[.int .i64 v, .slice p cs.length cap] 36)).alloc (.cells #[.int .i64 id] 3))).alloc (.cells #[.int .i64 0, .string ⟨#[]⟩, .slice none 0 0] 72)).get (heap_alloc_new (w.alloc (.cells #[.int .i64 v, .slice p cs.length cap] 36)) (.cells #[.int .i64 id] 3)) (fun h => h))
    simpa using this
  have hb3 : (((w.alloc (.cells #[.int .i64 v, .slice p cs.length cap] 36)).alloc (.cells #[.int .i64 id] 3)).alloc (.cells #[.int .i64 0, .string ⟨#[]⟩, .slice none 0 0] 72)).heap[w.heap.size + 2]? = some (.cells #[.int .i64 0, .string ⟨#[]⟩, .slice none 0 0] 72 (0, 0)) := by
    have := heap_alloc_new ((w.alloc (.cells #[.int .i64 v, .slice p cs.length cap] 36)).alloc (.cells #[.int .i64 id] 3)) (.cells #[.int .i64 0, .string ⟨#[]⟩, .slice none 0 0] 72)
    simpa using this
  have HF := hid (CP.mono (CP.low hf (Low.keep0 hk0)) hk0.size)
  have HK0 := hid hk0; have HB1 := hid hb1; have HB2 := hid hb2; have HB3 := hid hb3
  have HL := hid hl
  clear hl hf hb1 hb2 hb3 hk0
  go_enter Try.func71, Try.ntmps71
  go_upto_region 1 with fail
  generalize (((w.alloc (.cells #[.int .i64 v, .slice p cs.length cap] 36)).alloc (.cells #[.int .i64 id] 3)).alloc (.cells #[.int .i64 0, .string ⟨#[]⟩, .slice none 0 0] 72)) = w0 at *
  generalize hsb : w.heap.size = sb at *
  have d0 : w0.cell? ⟨sb, 0, none⟩ = some (.int .i64 v) := cell_of HB1.out (by rfl)
  have d1 : w0.cell? ⟨sb, 1, none⟩ = some (.slice p cs.length cap) := cell_of HB1.out (by rfl)
  have HC : Hid (w0.cell? ⟨sb + 1, 0, none⟩ = some (.int .i64 id)) := hid (cell_of HB2.out (by rfl))
  go_wp2_with fail
  refine (find_id id (sb + 1) v cs p cap _ HL.out HF.out HC.out).mono ?_
  rintro r w1 ⟨hr, hk1⟩
  have HK1 := hid (HK0.out.trans hk1)
  have HB4 := hid (hk1.get HB3.out (fun h => h))
  have HS := hid (lt_of_heap HB3.out)
  have HW1 : Hid (w0.heap.size ≤ w1.heap.size) := hid hk1.size
  clear hk1 d0 d1
  have c0 := cell_of HB4.out (i := 0) (by rfl)
  have c1 := cell_of HB4.out (i := 1) (by rfl)
  have c2 := cell_of HB4.out (i := 2) (by rfl)
  have f0 := free_of HB4.out 0
  have f1 := free_of HB4.out 1
  have f2 := free_of HB4.out 2
  rcases hr with ⟨k, c, p2, z, hz, hck, hqc, rfl, hle, hfp⟩ | ⟨hz, rfl⟩
  · have HZ := hid hz; have HCK := hid hck; have HFP := hid hfp; have HQC := hid hqc
    clear hz hck hfp hqc
    go_wp2
    (try simp only [Exit.inBlock, Exit.then])
    refine bodyPost_ret (results_ct rfl _ rfl (run_loadVar_row _ (sb + 2) _ 72 _ _ _ (cells3 (.int .i64 c.id) (.string c.name) (.slice p2 c.fs.length z) HB4.out) Try.underlying72 rfl (by kernel_rfl))) rfl ?_
    refine ⟨.inl ⟨k, c, p2, z, HZ.out, HCK.out, HQC.out, rfl, hle, ?_⟩, ((HK1.out.setCell_new (by show w.heap.size ≤ sb + 2; omega) _).setCell_new (by show w.heap.size ≤ sb + 2; omega) _).setCell_new (by show w.heap.size ≤ sb + 2; omega) _⟩
    have h2 := HS.out; have h3 := HK0.out.size
    exact owns_mono (owns_keep HFP.out (fun g hg => by
      have h1 := (HFP.out.lt g hg).1
      rw [hsc_ne _ (by omega), hsc_ne _ (by omega), hsc_ne _ (by omega)])) (by omega)
  · have HZ := hid hz
    clear hz
    go_wp2
    (try simp only [Exit.inBlock, Exit.then])
    refine bodyPost_ret (results_ct rfl _ rfl (run_loadVar_row _ (sb + 2) _ 72 _ _ _ (cells3 (.int .i64 0) (.string ⟨#[]⟩) (.slice none 0 0) HB4.out) Try.underlying72 rfl (by kernel_rfl))) rfl ?_
    exact ⟨.inr ⟨HZ.out, rfl⟩, ((HK1.out.setCell_new (by show w.heap.size ≤ sb + 2; omega) _).setCell_new (by show w.heap.size ≤ sb + 2; omega) _).setCell_new (by show w.heap.size ≤ sb + 2; omega) _⟩

end Go.Proofs.Ytcbboaoakgngkaa

namespace Go.Proofs.Ytcbboaoakgngkaa
open Go.RowKit Go.Proofs.Heap Go.Proofs.Sch

theorem results_tt {fn : Func} {p u : Tmp} (h : fn.results = #[.tmp p, .tmp u]) (tmps : Array Value) {P : Program} {w : World} : (results fn tmps).run P w = .ok (.tuple #[tmps.getD p undef, tmps.getD u undef]) w := by
  simp [results, h]

set_option maxRecDepth 20000 in
set_option maxHeartbeats 1000000 in
theorem sch_ids (v : Int) (cs : List Cmp) (p : Option Addr) (cap : Nat) (w : World) (hl1 : cs.length ≤ 2932031007402) (hf : CP w w.heap.size p cs) :
    Calls Try.prog 42 #[.agg #[.int .i64 v, .slice p cs.length cap]] w fun r w' => ∃ p' c', r = .returned (.slice p' cs.length c') ∧ w'.ownsRow w.heap.size 3 1 (.slice p' cs.length c') cs.length (cs.map (fun c => .int .i64 c.id)) ∧ Keep (fun _ => False) w w' := by
  obtain ⟨i0, hi0, hz0, hz1, hz2⟩ := info_parts' info_int
  have hb0 := heap_alloc_new w (.cells #[.int .i64 v, .slice p cs.length cap] 36)
  have hk0 := (Keep.refl (fun _ => False) w).alloc (.cells #[.int .i64 v, .slice p cs.length cap] 36)
  have HF := hid (CP.mono (CP.low hf (Low.keep0 hk0)) hk0.size)
  have HK0 := hid hk0; have HB0 := hid hb0
  clear hf hb0 hk0
  go_enter Try.func42, Try.ntmps42
  go_upto_region 1 with fail
  generalize w.alloc (.cells #[.int .i64 v, .slice p cs.length cap] 36) = w0 at *
  have HSB : Hid (w.heap.size < w0.heap.size) := hid (lt_of_heap HB0.out)
  generalize hsb : w.heap.size = sb at *
  have d1 : w0.cell? ⟨sb, 1, none⟩ = some (.slice p cs.length cap) := cell_of HB0.out (by rfl)
  go_wp2_with fail
  clear d1
  go_loopw [3, 5, 9] (fun av _ i wr => ∃ k : Nat, k ≤ cs.length ∧ i = iV k ∧ Keep (fun _ => False) w0 wr ∧ wr.ownsRow w0.heap.size 3 1 av k ((cs.take k).map (fun c => .int .i64 c.id))) (fun _ _ i _ => cs.length + 1 - (intOf i).toNat)
  case atStart => exact ⟨0, by omega, rfl, Keep.refl _ _, World.ownsRow_nil _ _ _ _⟩
  case round =>
    obtain ⟨k, hk, rfl, hkeep, hown⟩ := hrel
    have HK := hid hkeep; have HO := hid hown
    clear hkeep hown
    by_cases hlt : k < cs.length
    · obtain ⟨c, hck⟩ : ∃ c, cs[k]? = some c := ⟨cs[k], by simp [hlt]⟩
      obtain ⟨b, off, fq, fk, rfl, hb, c0, c1, c2, _, _⟩ := CP.at (CP.low HF.out (Low.keep0 HK.out)) hck
      have hin : (0 : Int) ≤ (k : Int) ∧ (k : Int) < (cs.length : Int) := ⟨by omega, by omega⟩
      have hk2 := (Keep.refl (fun _ => False) wr).alloc (.cells #[.int .i64 c.id, .string c.name, .slice fq c.fs.length fk] 72)
      have HK2 := hid (HK.out.trans hk2)
      have HO2 := hid (owns_keep HO.out (fun q hq => hk2.block q (HO.out.lt q hq).2 (fun h => h)))
      have hcb := heap_alloc_new wr (.cells #[.int .i64 c.id, .string c.name, .slice fq c.fs.length fk] 72)
      have HTK : Hid ((cs.take (k + 1)).map (fun c => Value.int .i64 c.id) = (cs.take k).map (fun c => Value.int .i64 c.id) ++ [.int .i64 c.id]) := hid (by rw [take_next hck, List.map_append]; rfl)
      have hs := HK2.out.size
      clear hck hk2
      generalize (cs.take k).map (fun c => Value.int .i64 c.id) = xs at *
      go_upto_region 5 with fail
      generalize wr.alloc (.cells #[.int .i64 c.id, .string c.name, .slice fq c.fs.length fk] 72) = wa at *
      have e0 := cell_of hcb (i := 0) (by rfl)
      clear hcb
      go_wp2_with (at_builtin; go_loud (refine wpList_append_rd rfl (.tmp 13) (.tmp 16) _ rfl w0.heap.size _ i0 _ 1 8 Try.underlying24 hi0 hz0 hz1 hz2 rfl (by decide) _ k _ (by rfl) (HO2.out.alloc _) _ 1 [.int .i64 c.id] (by rfl) (rd_block (heap_alloc_new wa _) (by simp) (by simp [Value.oneCell'])) (by unfold maxLen; omega) (by omega) (by simp; omega) ?_; intro v' w5 hown5 hgrow5 hat5 hn5; rw [← HTK.out] at hown5; have HO5 := hid hown5; have HK5 := hid ((HK2.out.alloc _).grown hgrow5 (fun k hk => .inl (HO2.out.lt k hk).1)); clear hown5 hgrow5 hat5 hn5))
      go_roundw
      case rel => exact ⟨k + 1, by omega, by go_num, HK5.out, HO5.out⟩
      case measure => simp [intOf]; omega
    · obtain rfl : k = cs.length := by omega
      rw [List.take_length] at HO
      obtain ⟨ap, ac, rfl⟩ := owns_val HO.out
      go_wp2
      go_ret
      exact ⟨ap, ac, rfl, owns_mono HO.out (by have := HSB.out; omega), HK0.out.trans HK.out⟩

end Go.Proofs.Ytcbboaoakgngkaa

namespace Go.Proofs.Ytcbboaoakgngkaa
open Go.RowKit Go.Proofs.Heap Go.Proofs.Sch

theorem idx_any {α : Type} (q : α → Bool) (l : List α) : (∃ k : Nat, idxI q l = (k : Int)) → l.any q = true := by
  rintro ⟨k, hk⟩
  rcases idx_cases q l with h | ⟨i, x, _, hx, hq, _⟩
  · omega
  · exact List.any_eq_true.2 ⟨x, List.mem_of_getElem? hx, hq⟩
theorem idx_any_no {α : Type} (q : α → Bool) (l : List α) (h : idxI q l = -1) : l.any q = false := by
  rw [List.any_eq_false]
  intro x hx hq
  unfold idxI at h
  cases e : l.findIdx? q with
  | none => exact absurd hq (by simpa using (List.findIdx?_eq_none_iff.1 e) x hx)
  | some k => rw [e] at h; simp only at h; omega

theorem find_any (id : Int) (v : Int) (cs : List Cmp) (p : Option Addr) (cap : Nat) (w : World) (hl : Small cs) (hf : CP w w.heap.size p cs) :
    Calls Try.prog 71 #[.agg #[.int .i64 v, .slice p cs.length cap], .int .i64 id] w fun r w' => ∃ (a : Int) (b : ByteArray) (q : Option Addr) (n z : Nat), r = .returned (.tuple #[.agg #[.int .i64 a, .string b, .slice q n z], .bool (cs.any (fun c => decide (c.id = id)))]) ∧ Keep (fun _ => False) w w' := by
  refine (sch_find id v cs p cap w hl hf).mono ?_
  rintro r w' ⟨h | h, hk⟩
  · obtain ⟨k, c, q, z, hi, _, _, rfl, _, _⟩ := h
    exact ⟨c.id, c.name, q, _, z, by rw [idx_any _ _ ⟨k, hi⟩], hk⟩
  · obtain ⟨hi, rfl⟩ := h
    exact ⟨_, _, _, _, _, by rw [idx_any_no _ _ hi], hk⟩

/-- What is found where it must be found. -/
theorem found_at {B : Nat} {w' : World} {q : Cmp → Bool} {cs : List Cmp} {r : Ending} {k : Nat} {c : Cmp} (h : Found B w' q cs r) (hi : idxI q cs = (k : Int)) (hk : cs[k]? = some c) :
    ∃ (p : Option Addr) (z : Nat), r = .returned (.tuple #[.agg #[.int .i64 c.id, .string c.name, .slice p c.fs.length z], .bool true]) ∧ c.fs.length ≤ z ∧ FP w' w'.heap.size p c.fs := by
  rcases h with ⟨k', c', p, z, h1, h2, _, rfl, h4, h5⟩ | ⟨h1, _⟩
  · have : k = k' := by omega
    subst this
    rw [hk] at h2
    injection h2 with h2
    subst h2
    exact ⟨p, z, rfl, h4, fp_own rfl h5⟩
  · omega

theorem find_at {v : Int} {cs : List Cmp} (hg : GoodS v cs) {k : Nat} {i : Int} {nm : ByteArray} {fs : List Fld} (hk : cs[k]? = some ⟨i, nm, fs⟩) (u : Int) (p : Option Addr) (cap : Nat) (w : World) (hl : Small cs) (hf : CP w w.heap.size p cs) :
    Calls Try.prog 71 #[.agg #[.int .i64 u, .slice p cs.length cap], .int .i64 i] w fun r w' => ∃ (q : Option Addr) (z : Nat), r = .returned (.tuple #[.agg #[.int .i64 i, .string nm, .slice q fs.length z], .bool true]) ∧ FP w' w'.heap.size q fs ∧ Keep (fun _ => False) w w' := by
  refine (sch_find i u cs p cap w hl hf).mono ?_
  rintro r w' ⟨h, hk'⟩
  obtain ⟨q, z, hr, _, h5⟩ := found_at h (hg.id_idx hk) hk
  exact ⟨q, z, hr, h5, hk'⟩
end Go.Proofs.Ytcbboaoakgngkaa

namespace Go.Proofs.Ytcbboaoakgngkaa
open Go.RowKit Go.Proofs.Heap Go.Proofs.Sch

def nilC : Cmp := ⟨0, ⟨#[]⟩, []⟩
/-- The component of an id, or none. -/
def foundC (cs : List Cmp) (id : Int) : Cmp := if idxI (fun c : Cmp => decide (c.id = id)) cs < 0 then nilC else (cs[(idxI (fun c : Cmp => decide (c.id = id)) cs).toNat]?).getD nilC
theorem foundC_small {cs : List Cmp} (h : Small cs) (id : Int) : (foundC cs id).fs.length ≤ 4398046511104 := by
  unfold foundC
  split
  · simp [nilC]
  · cases e : cs[(idxI (fun c : Cmp => decide (c.id = id)) cs).toNat]? with
    | none => simp [nilC]
    | some c => exact h.2 c (List.mem_of_getElem? e)
theorem find_co (id : Int) (v : Int) (cs : List Cmp) (p : Option Addr) (cap : Nat) (w : World) (hl : Small cs) (hf : CP w w.heap.size p cs) :
    Calls Try.prog 71 #[.agg #[.int .i64 v, .slice p cs.length cap], .int .i64 id] w fun r w' => ∃ (q : Option Addr) (z : Nat), r = .returned (.tuple #[.agg #[.int .i64 (foundC cs id).id, .string (foundC cs id).name, .slice q (foundC cs id).fs.length z], .bool (cs.any (fun c => decide (c.id = id)))]) ∧
      w'.ownsRow w.heap.size 69 3 (.slice q (foundC cs id).fs.length z) (foundC cs id).fs.length ((foundC cs id).fs.flatMap fcl) ∧ Keep (fun _ => False) w w' := by
  refine (sch_find id v cs p cap w hl hf).mono ?_
  rintro r w' ⟨h | h, hk⟩
  · obtain ⟨k, c, q, z, hi, hc, _, rfl, _, h5⟩ := h
    have e : foundC cs id = c := by
      unfold foundC
      rw [hi, if_neg (by omega), Int.toNat_natCast, hc]; rfl
    rw [e]
    exact ⟨q, z, by rw [idx_any _ _ ⟨k, hi⟩], h5, hk⟩
  · obtain ⟨hi, rfl⟩ := h
    have e : foundC cs id = nilC := by
      unfold foundC
      rw [hi]; rfl
    rw [e]
    exact ⟨none, 0, by rw [idx_any_no _ _ hi]; rfl, World.ownsRow_nil _ _ _ _, hk⟩
theorem find_c (id : Int) (v : Int) (cs : List Cmp) (p : Option Addr) (cap : Nat) (w : World) (hl : Small cs) (hf : CP w w.heap.size p cs) :
    Calls Try.prog 71 #[.agg #[.int .i64 v, .slice p cs.length cap], .int .i64 id] w fun r w' => ∃ (q : Option Addr) (z : Nat), r = .returned (.tuple #[.agg #[.int .i64 (foundC cs id).id, .string (foundC cs id).name, .slice q (foundC cs id).fs.length z], .bool (cs.any (fun c => decide (c.id = id)))]) ∧ FP w' w'.heap.size q (foundC cs id).fs ∧ Keep (fun _ => False) w w' :=
  (find_co id v cs p cap w hl hf).mono fun _ _ ⟨q, z, h1, h2, h3⟩ => ⟨q, z, h1, fp_own rfl h2, h3⟩
end Go.Proofs.Ytcbboaoakgngkaa

namespace Go.Proofs.Ytcbboaoakgngkaa
open Go.RowKit Go.Proofs.Heap Go.Proofs.Sch

/-- What is wrong with an element. -/
def elemC (fs : List Fld) (has : Bool) (x : VOp) : Nat := if has = false then 6 else match fs[x.b.toNat]? with
  | none => 3
  | some f => if f.count ≤ x.c then 3 else if f.kind = 10 then 8 else 0

set_option maxRecDepth 20000 in
set_option maxHeartbeats 8000000 in
theorem elem_of (v : Int) (cs : List Cmp) (p : Option Addr) (cap : Nat) (all : Nat) (x : VOp) (w : World) (ha : all < 4294967296) (hb : 0 ≤ x.b) (hl : Small cs) (hf : CP w w.heap.size p cs) :
    Calls Try.prog 70 #[.agg #[.int .i64 v, .slice p cs.length cap], .int .u32 (all : Int), OV x] w fun r w' => r = .returned (iV (elemC (foundC cs x.a).fs (hasSig all x.a) x)) ∧ Keep (fun _ => False) w w' := by
  obtain ⟨w1, hw1, hb1, hb2, hs1, hk1⟩ := box2 w #[.int .i64 v, .slice p cs.length cap] (OC x) 36 54
  have HK1 := hid hk1; have HB2 := hid hb2
  have HF := hid (find_c x.a v cs p cap w1 hl (CP.mono (CP.low hf (Low.keep0 hk1)) hk1.size))
  have HFS := hid (foundC_small hl x.a)
  have a0 := cell_of hb1 (i := 0) (by rfl)
  have a1 := cell_of hb1 (i := 1) (by rfl)
  have y1 := cell_of hb2 (i := 1) (by rfl)
  have HE : Hid (elemC (foundC cs x.a).fs (hasSig all x.a) x = if hasSig all x.a = false then 6 else match (foundC cs x.a).fs[x.b.toNat]? with
    | none => 3
    | some f => if f.count ≤ x.c then 3 else if f.kind = 10 then 8 else 0) := hid rfl
  have HH := hid (fun wy => sig_has all ha x.a wy)
  generalize elemC (foundC cs x.a).fs (hasSig all x.a) x = R at *
  generalize hasSig all x.a = hs at *
  generalize foundC cs x.a = fc at *
  clear hb1 hb2 hs1 hk1 hf hl
  simp only [List.getElem_toArray, List.getElem_cons_succ, List.getElem_cons_zero] at a0 a1 y1
  go_enter Try.func70, Try.ntmps70
  go_upto_region 1 with fail
  rw [← hw1]
  clear hw1
  generalize w.heap.size + 1 = xb at *
  generalize w.heap.size = sb at *
  go_wp2_with fail
  refine HF.out.mono ?_
  rintro r w2 ⟨q, z, rfl, hfp, hk2⟩
  have HK2 := hid hk2
  obtain ⟨w3, hw3, hb3, hs3, hk3⟩ := box1 w2 #[.int .i64 fc.id, .string fc.name, .slice q fc.fs.length z] 72
  have HK3 := hid (HK2.out.trans hk3)
  have HB3 := hid hb3
  have HP3 := hid (FP.mono (FP.low hfp (Low.keep0 hk3)) hk3.size)
  clear hk2 hfp hb3 hs3 hk3 a0 a1 y1
  go_upto_block 0 with fail
  rw [← hw3]
  clear hw3
  generalize w2.heap.size = cb at *
  have HX : Hid (∀ wy, Keep (fun _ => False) w1 wy → wy.cell? ⟨xb, 1, none⟩ = some (.int .i64 x.a) ∧ wy.cell? ⟨xb, 2, none⟩ = some (.int .i64 x.b) ∧ wy.cell? ⟨xb, 3, none⟩ = some (.int .i64 x.c)) := hid (fun wy hk =>
    ⟨cell_of (hk.get HB2.out id) (by rfl), cell_of (hk.get HB2.out id) (by rfl), cell_of (hk.get HB2.out id) (by rfl)⟩)
  have HC : Hid (∀ wy, Keep (fun _ => False) w3 wy → wy.cell? ⟨cb, 2, none⟩ = some (.slice q fc.fs.length z)) := hid (fun wy hk => cell_of (hk.get HB3.out id) (by rfl))
  obtain ⟨y1, y2, y3⟩ := HX.out _ HK3.out
  go_wp2_with fail
  refine (HH.out _).mono ?_
  rintro r w_ ⟨rfl, rfl⟩
  cases hs
  · have G : Hid (R = 6) := hid (by rw [HE.out, if_pos rfl])
    go_wp2
    go_ret
    exact ⟨by rw [G.out]; rfl, HK1.out.trans HK3.out⟩
  have HE2 : Hid (R = match fc.fs[x.b.toNat]? with
    | none => 3
    | some f => if f.count ≤ x.c then 3 else if f.kind = 10 then 8 else 0) := hid (by rw [HE.out, if_neg (by simp)])
  clear HE y1 y2 y3
  obtain ⟨bn, hbn⟩ := Int.eq_ofNat_of_zero_le hb
  rw [hbn, Int.toNat_natCast] at HE2
  have HX2 : Hid (∀ wy, Keep (fun _ => False) w1 wy → wy.cell? ⟨xb, 1, none⟩ = some (.int .i64 x.a) ∧ wy.cell? ⟨xb, 2, none⟩ = some (.int .i64 (bn : Int)) ∧ wy.cell? ⟨xb, 3, none⟩ = some (.int .i64 x.c)) := hid (fun wy hk => by have h := HX.out wy hk; rwa [hbn] at h)
  clear HX hbn hb
  obtain ⟨y1, y2, y3⟩ := HX2.out _ HK3.out.drew
  have c2 := HC.out _ (Keep.refl _ w3).drew
  go_wp2_with fail
  refine Plan.wp_region_pl [(false, 0, []), (false, 1, []), (false, 2, []), (false, 3, []), (false, 4, []), (false, 5, []), (false, 6, []), (false, 7, []), (false, 8, []), (false, 9, []), (false, 10, []), (false, 11, []), (false, 12, []), (false, 13, []), (false, 14, []), (false, 15, []), (false, 16, []), (false, 17, []), (false, 18, [])] (by as_aux_lemma => kernel_rfl) (by as_aux_lemma => kernel_rfl) ?_
  by_cases hlt : bn < fc.fs.length
  rotate_left
  · have g1 : decide ((fc.fs.length : Int) ≤ (bn : Int)) = true := decide_eq_true (by omega)
    have g2 : decide (fc.fs.length ≤ bn) = true := decide_eq_true (by omega)
    have G : Hid (R = 3) := hid (by rw [HE2.out, List.getElem?_eq_none (by omega)])
    iterate 19 (refine Plan.pl_st rfl ?_; go_big_quiet_step (fail); refine wpQuiet_nil ?_)
    refine Plan.pl_end ?_
    go_wp2
    go_ret
    exact ⟨by rw [G.out]; rfl, HK1.out.trans HK3.out.drew⟩
  · obtain ⟨f, hfk⟩ : ∃ f, fc.fs[bn]? = some f := ⟨fc.fs[bn], by simp [hlt]⟩
    have HE3 : Hid (R = if f.count ≤ x.c then 3 else if f.kind = 10 then 8 else 0) := hid (by rw [HE2.out, hfk])
    have hp4 := FP.low HP3.out (Low.keep0 (Keep.refl (fun _ => False) w3).drew)
    obtain ⟨b, off, rfl, hb, d0, d1, d2⟩ := FP.at hp4 hfk
    have g1 : decide ((fc.fs.length : Int) ≤ (bn : Int)) = false := decide_eq_false (by omega)
    have g2 : decide (fc.fs.length ≤ bn) = false := decide_eq_false (by omega)
    have hin : (0 : Int) ≤ (bn : Int) ∧ (bn : Int) < (fc.fs.length : Int) := ⟨by omega, by omega⟩
    clear hfk hp4 HE2 hb
    by_cases hct : f.count ≤ x.c
    · have g3 : decide (f.count ≤ x.c) = true := decide_eq_true hct
      have G : Hid (R = 3) := hid (by rw [HE3.out, if_pos hct])
      iterate 19 (refine Plan.pl_st rfl ?_; go_big_quiet_step (fail); refine wpQuiet_nil ?_)
      refine Plan.pl_end ?_
      go_wp2
      go_ret
      exact ⟨by rw [G.out]; rfl, HK1.out.trans HK3.out.drew⟩
    · have g3 : decide (f.count ≤ x.c) = false := decide_eq_false hct
      iterate 19 (refine Plan.pl_st rfl ?_; go_big_quiet_step (fail); refine wpQuiet_nil ?_)
      refine Plan.pl_end ?_
      by_cases hkd : f.kind = 10
      · have g4 : (f.kind == 10) = true := beq_iff_eq.2 hkd
        have G : Hid (R = 8) := hid (by rw [HE3.out, if_neg hct, if_pos hkd])
        go_wp2
        go_ret
        exact ⟨by rw [G.out]; rfl, HK1.out.trans HK3.out.drew⟩
      · have g4 : (f.kind == 10) = false := beq_eq_false_iff_ne.2 hkd
        have G : Hid (R = 0) := hid (by rw [HE3.out, if_neg hct, if_neg hkd])
        go_wp2
        go_ret
        exact ⟨by rw [G.out]; rfl, HK1.out.trans HK3.out.drew⟩

/-- What is wrong with an instruction. -/
def insC (cs : List Cmp) (all : Nat) (x : VOp) : Nat := if x.code = 2 ∨ x.code = 3 then elemC (foundC cs x.a).fs (hasSig all x.a) x else if x.code = 20 ∨ x.code = 21 ∨ x.code = 22 then (if cs.any (fun c => decide (c.id = x.a)) = true then 0 else 6) else 0

set_option maxRecDepth 20000 in
set_option maxHeartbeats 8000000 in
theorem ins_of (v : Int) (cs : List Cmp) (p : Option Addr) (cap : Nat) (all : Nat) (x : VOp) (w : World) (ha : all < 4294967296) (hb : x.code = 2 ∨ x.code = 3 → 0 ≤ x.b) (hl : Small cs) (hf : CP w w.heap.size p cs) :
    Calls Try.prog 44 #[.agg #[.int .i64 v, .slice p cs.length cap], .int .u32 (all : Int), OV x] w fun r w' => r = .returned (iV (insC cs all x)) ∧ Keep (fun _ => False) w w' := by
  obtain ⟨w1, hw1, hb1, hb2, hs1, hk1⟩ := box2 w #[.int .i64 v, .slice p cs.length cap] (OC x) 36 54
  have HK1 := hid hk1
  have hcp := CP.mono (CP.low hf (Low.keep0 hk1)) hk1.size
  have HF := hid (find_c x.a v cs p cap w1 hl hcp)
  have HEL := hid (fun h => elem_of v cs p cap all x w1 ha (hb h) hl hcp)
  have a0 := cell_of hb1 (i := 0) (by rfl)
  have a1 := cell_of hb1 (i := 1) (by rfl)
  have y0 := cell_of hb2 (i := 0) (by rfl)
  have y1 := cell_of hb2 (i := 1) (by rfl)
  have y2 := cell_of hb2 (i := 2) (by rfl)
  have y3 := cell_of hb2 (i := 3) (by rfl)
  have y4 := cell_of hb2 (i := 4) (by rfl)
  have HE : Hid (insC cs all x = if x.code = 2 ∨ x.code = 3 then elemC (foundC cs x.a).fs (hasSig all x.a) x else if x.code = 20 ∨ x.code = 21 ∨ x.code = 22 then (if cs.any (fun c => decide (c.id = x.a)) = true then 0 else 6) else 0) := hid rfl
  generalize insC cs all x = R at *
  generalize foundC cs x.a = fc at *
  generalize cs.any (fun c => decide (c.id = x.a)) = inB at *
  clear hb1 hb2 hs1 hk1 hf hl hcp hb
  simp only [List.getElem_toArray, List.getElem_cons_succ, List.getElem_cons_zero] at a0 a1 y0 y1 y2 y3 y4
  go_enter Try.func44, Try.ntmps44
  go_upto_region 1 with fail
  rw [← hw1]
  clear hw1
  generalize w.heap.size + 1 = xb at *
  generalize w.heap.size = sb at *
  by_cases h2 : x.code = 2
  · have g1 : (x.code == 2) = true := beq_iff_eq.2 h2
    have G : Hid (R = elemC fc.fs (hasSig all x.a) x) := hid (by rw [HE.out, if_pos (.inl h2)])
    rw [← G.out] at HEL
    have HQ := hid (HEL.out (.inl h2))
    clear h2 HEL
    go_wp2_with fail
    refine HQ.out.mono ?_
    rintro r w2 ⟨rfl, hk2⟩
    have HK2 := hid (HK1.out.trans hk2)
    clear hk2 y0 y1 y2 y3 y4 a0 a1
    go_wp2
    go_ret
    exact ⟨rfl, HK2.out⟩
  have g1 : (x.code == 2) = false := beq_eq_false_iff_ne.2 h2
  by_cases h3 : x.code = 3
  · have g2 : (x.code == 3) = true := beq_iff_eq.2 h3
    have G : Hid (R = elemC fc.fs (hasSig all x.a) x) := hid (by rw [HE.out, if_pos (.inr h3)])
    rw [← G.out] at HEL
    have HQ := hid (HEL.out (.inr h3))
    clear h2 h3 HEL
    go_wp2_with fail
    refine HQ.out.mono ?_
    rintro r w2 ⟨rfl, hk2⟩
    have HK2 := hid (HK1.out.trans hk2)
    clear hk2 y0 y1 y2 y3 y4 a0 a1
    go_wp2
    go_ret
    exact ⟨rfl, HK2.out⟩
  have g2 : (x.code == 3) = false := beq_eq_false_iff_ne.2 h3
  clear HEL
  by_cases hr : x.code = 20 ∨ x.code = 21 ∨ x.code = 22
  rotate_left
  · have g3 : (x.code == 20) = false := beq_eq_false_iff_ne.2 (by omega)
    have g4 : (x.code == 21) = false := beq_eq_false_iff_ne.2 (by omega)
    have g5 : (x.code == 22) = false := beq_eq_false_iff_ne.2 (by omega)
    have G : Hid (R = 0) := hid (by rw [HE.out, if_neg (by omega), if_neg hr])
    clear hr
    go_wp2
    go_ret
    exact ⟨by rw [G.out]; rfl, HK1.out⟩
  have HE2 : Hid (R = if inB = true then 0 else 6) := hid (by rw [HE.out, if_neg (by omega), if_pos hr])
  clear HE
  have h3w : ((x.code == 20) = true) ∨ ((x.code == 20) = false ∧ (x.code == 21) = true) ∨ ((x.code == 20) = false ∧ (x.code == 21) = false ∧ (x.code == 22) = true) := by
    rcases hr with h | h | h
    · exact .inl (beq_iff_eq.2 h)
    · exact .inr (.inl ⟨beq_eq_false_iff_ne.2 (by omega), beq_iff_eq.2 h⟩)
    · exact .inr (.inr ⟨beq_eq_false_iff_ne.2 (by omega), beq_eq_false_iff_ne.2 (by omega), beq_iff_eq.2 h⟩)
  clear hr h2 h3
  have key : ∀ (b : Bool), inB = b → (b = true ∧ R = 0) ∨ (b = false ∧ R = 6) := fun b hb => by
    subst hb
    cases inB
    · exact .inr ⟨rfl, by rw [HE2.out]; rfl⟩
    · exact .inl ⟨rfl, by rw [HE2.out]; rfl⟩
  have HKEY := hid (key inB rfl)
  clear key HE2
  rcases h3w with g3 | ⟨g3, g4⟩ | ⟨g3, g4, g5⟩
  all_goals
    go_wp2_with fail
    refine HF.out.mono ?_
    rintro r w2 ⟨q, z, rfl, _, hk2⟩
    have HK2 := hid ((HK1.out.trans hk2).alloc (.cells #[.int .i64 fc.id, .string fc.name, .slice q fc.fs.length z] 72))
    clear hk2 y0 y1 y2 y3 y4 a0 a1
    rcases HKEY.out with ⟨rfl, hR⟩ | ⟨rfl, hR⟩
    all_goals
      have G := hid hR
      clear hR
      go_wp2
      go_ret
      exact ⟨by rw [G.out]; rfl, HK2.out⟩
end Go.Proofs.Ytcbboaoakgngkaa

namespace Go.Proofs.Ytcbboaoakgngkaa
open Go.RowKit Go.Proofs.Heap Go.Proofs.Sch

/-- The first error of a list. -/
def firstE : List Nat → Nat
  | [] => 0
  | e :: r => if e = 0 then firstE r else e
theorem firstE_at {l : List Nat} : ∀ {k e : Nat}, l[k]? = some e → e ≠ 0 → (∀ j, j < k → l[j]? = some 0) → firstE l = e := by
  induction l with
  | nil => intro k e h; simp at h
  | cons a r ih =>
    intro k e h he hall
    cases k with
    | zero =>
      simp at h
      subst h
      rw [firstE, if_neg he]
    | succ k =>
      have h0 := hall 0 (by omega)
      simp at h0
      subst h0
      rw [firstE, if_pos rfl]
      exact ih (by simpa using h) he (fun j hj => by have := hall (j + 1) (by omega); simpa using this)
theorem firstE_none : ∀ {l : List Nat}, (∀ e ∈ l, e = 0) → firstE l = 0
  | [], _ => rfl
  | a :: r, h => by rw [firstE, if_pos (h a (by simp))]; exact firstE_none (fun e he => h e (by simp [he]))
def idsN (cs : List Cmp) : Nat := orN (cs.map (·.id))
/-- The error of a system, over a schema. -/
def verC (v : Int) (cs : List Cmp) (s : VSys) : Nat :=
  if checkC v cs ≠ 0 then checkC v cs else if sysC s ≠ 0 then sysC s else if (withinB s.all (idsN cs) && withinB s.none (idsN cs)) = false then 6
  else if firstE (s.code.map (insC cs s.all)) ≠ 0 then firstE (s.code.map (insC cs s.all)) else depthsE s.code
theorem sys_zero {s : VSys} (h : sysC s = 0) : codeC s.code = 0 := by
  unfold sysC at h
  unfold codeC
  repeat (split at h; · first | omega | assumption)
  split at h
  · rename_i h1; rw [if_neg (by assumption), if_pos h1]
  · omega

theorem good_load {n : Nat} {x : VOp} (h : goodOp n x = true) (hc : x.code = 2 ∨ x.code = 3) : 0 ≤ x.b := by
  unfold goodOp at h
  have hn : namesN x.code = 3 := by unfold namesN; rw [if_neg (by omega), if_neg (by omega), if_pos (by omega)]
  rw [hn, Bool.and_eq_true, if_neg (by omega), if_neg (by omega), if_neg (by omega)] at h
  have := of_decide_eq_true h.2
  omega
theorem good_len {last : Int} : ∀ {cs : List Cmp}, (∀ c ∈ cs, last < c.id ∧ c.id ≤ 24) → cs.Pairwise (fun a b => a.id < b.id) → (cs.length : Int) + last ≤ 24 ∨ cs = []
  | [], _, _ => .inr rfl
  | c :: r, h, hp => by
    have h1 := h c (by simp)
    obtain ⟨h2, h3⟩ := List.pairwise_cons.1 hp
    rcases good_len (last := c.id) (cs := r) (fun d hd => ⟨h2 d hd, (h d (by simp [hd])).2⟩) h3 with h4 | rfl
    · left; rw [List.length_cons]; omega
    · left; simp; omega

set_option maxRecDepth 20000 in
set_option maxHeartbeats 16000000 in
theorem verify_check (v : Int) (cs : List Cmp) (p : Option Addr) (cap : Nat) (s : VSys) (pa : Option Addr) (ca : Nat) (pc : Option Addr) (cc : Nat) (w : World) (h1 : s.all < 4294967296) (h2 : s.none < 4294967296) (hca : s.after.length ≤ ca) (hl : Small cs) (hf : CP w w.heap.size p cs) (ha : TP w w.heap.size pa s.after) (hc : VP w w.heap.size pc s.code) :
    Calls Try.prog 17 #[.agg #[.int .i64 v, .slice p cs.length cap], SysV s pa ca pc cc] w fun r w' => r = .returned (iV (verC v cs s)) ∧ Keep (fun _ => False) w w' := by
  obtain ⟨w1, hw1, hb1, hb2, hs1, hk1⟩ := box2 w #[.int .i64 v, .slice p cs.length cap] (SysC s pa ca pc cc) 36 43
  have HB1 := hid hb1; have HB2 := hid hb2; have HK1 := hid hk1
  have HCP : Hid (∀ wy, Keep (fun _ => False) w1 wy → CP wy wy.heap.size p cs) := hid (fun wy hk => CP.mono (CP.low hf (Low.keep0 (hk1.trans hk))) (hk1.trans hk).size)
  have HTP : Hid (∀ wy, Keep (fun _ => False) w1 wy → TP wy wy.heap.size pa s.after) := hid (fun wy hk => TP.mono (TP.low ha (Low.keep0 (hk1.trans hk))) (hk1.trans hk).size)
  have HVP : Hid (∀ wy, Keep (fun _ => False) w1 wy → VP wy wy.heap.size pc s.code) := hid (fun wy hk => VP.mono (VP.low hc (Low.keep0 (hk1.trans hk))) (hk1.trans hk).size)
  have HSM := hid hl; have HCA := hid hca; have H1 := hid h1; have H2 := hid h2
  have HE : Hid (verC v cs s = if checkC v cs ≠ 0 then checkC v cs else if sysC s ≠ 0 then sysC s else if (withinB s.all (idsN cs) && withinB s.none (idsN cs)) = false then 6
    else if firstE (s.code.map (insC cs s.all)) ≠ 0 then firstE (s.code.map (insC cs s.all)) else depthsE s.code) := hid rfl
  generalize verC v cs s = R at *
  have HS : Hid (∀ wy, Keep (fun _ => False) w1 wy → wy.cell? ⟨w.heap.size, 0, none⟩ = some (.int .i64 v) ∧ wy.cell? ⟨w.heap.size, 1, none⟩ = some (.slice p cs.length cap)) := hid (fun wy hk => ⟨cell_of (hk.get HB1.out id) (by rfl), cell_of (hk.get HB1.out id) (by rfl)⟩)
  have HC : Hid (∀ wy, Keep (fun _ => False) w1 wy → wy.cell? ⟨w.heap.size + 1, 0, none⟩ = some (.string s.name) ∧ wy.cell? ⟨w.heap.size + 1, 1, none⟩ = some (.int .i64 s.stage) ∧ wy.cell? ⟨w.heap.size + 1, 2, none⟩ = some (.slice pa s.after.length ca) ∧ wy.cell? ⟨w.heap.size + 1, 3, none⟩ = some (.int .u32 (s.all : Int)) ∧ wy.cell? ⟨w.heap.size + 1, 4, none⟩ = some (.int .u32 (s.none : Int)) ∧ wy.cell? ⟨w.heap.size + 1, 5, none⟩ = some (.slice pc s.code.length cc)) := hid (fun wy hk =>
    ⟨cell_of (hk.get HB2.out id) (by rfl), cell_of (hk.get HB2.out id) (by rfl), cell_of (hk.get HB2.out id) (by rfl), cell_of (hk.get HB2.out id) (by rfl), cell_of (hk.get HB2.out id) (by rfl), cell_of (hk.get HB2.out id) (by rfl)⟩)
  clear hb1 hb2 hs1 hk1 hf ha hc hl hca h1 h2
  go_enter Try.func17, Try.ntmps17
  go_upto_region 1 with fail
  rw [← hw1]
  clear hw1
  generalize w.heap.size + 1 = tb at *
  generalize w.heap.size = sb at *
  obtain ⟨s0, s1⟩ := HS.out _ (Keep.refl _ _)
  go_wp2_with fail
  refine (sch_check v cs p cap _ HSM.out (HCP.out _ (Keep.refl _ _))).mono ?_
  rintro r w2 ⟨rfl, hk2⟩
  have HK2 := hid hk2
  clear hk2 s0 s1
  have HIDS : Hid (checkC v cs = 0 → ∀ i ∈ cs.map (·.id), idB i = true) := hid (fun h i hi => by
    obtain ⟨c, hc, rfl⟩ := List.mem_map.1 hi
    have hg := ((checkC_iff v cs).1 h).2.1 c hc
    unfold idB
    exact decide_eq_true ⟨by omega, hg.2.1⟩)
  have HLEN0 : Hid (checkC v cs = 0 → cs.length ≤ 65536) := hid (fun h => by
    have hg := ((checkC_iff v cs).1 h).2
    rcases good_len (last := 0) (fun c hc => ⟨(hg.1 c hc).1, (hg.1 c hc).2.1⟩) (hg.2.imp (fun h => h.1)) with h2 | h2
    · omega
    · rw [h2]; simp)
  generalize checkC v cs = z1 at *
  by_cases hz1 : z1 = 0
  rotate_left
  · have g1 : ((z1 : Int) != 0) = true := by rw [bne, beq_eq_false_iff_ne.2 (show (z1 : Int) ≠ 0 by omega)]; rfl
    have g2 : (z1 != 0) = true := by rw [bne, beq_eq_false_iff_ne.2 hz1]; rfl
    have G : Hid (R = z1) := hid (by rw [HE.out, if_pos hz1])
    go_wp2
    go_ret
    exact ⟨by rw [G.out]; rfl, HK1.out.trans HK2.out⟩
  subst hz1
  have HIDS2 := hid (HIDS.out rfl)
  have HLEN := hid (HLEN0.out rfl)
  have HE1 : Hid (R = if sysC s ≠ 0 then sysC s else if (withinB s.all (idsN cs) && withinB s.none (idsN cs)) = false then 6
    else if firstE (s.code.map (insC cs s.all)) ≠ 0 then firstE (s.code.map (insC cs s.all)) else depthsE s.code) := hid (by rw [HE.out, if_neg (by simp)])
  clear HE HIDS
  obtain ⟨c0, c1, c2, c3, c4, c5⟩ := HC.out _ HK2.out
  go_wp2_with fail
  refine (craft_check s pa ca pc cc _ H1.out H2.out HCA.out (HTP.out _ HK2.out) (HVP.out _ HK2.out)).mono ?_
  rintro r w3 ⟨rfl, hk3⟩
  have HK3 := hid (HK2.out.trans hk3)
  clear hk3 c0 c1 c2 c3 c4 c5
  have HSZ := hid (fun h : sysC s = 0 => sys_zero h)
  generalize sysC s = z2 at *
  by_cases hz2 : z2 = 0
  rotate_left
  · have g1 : ((z2 : Int) != 0) = true := by rw [bne, beq_eq_false_iff_ne.2 (show (z2 : Int) ≠ 0 by omega)]; rfl
    have g2 : (z2 != 0) = true := by rw [bne, beq_eq_false_iff_ne.2 hz2]; rfl
    have G : Hid (R = z2) := hid (by rw [HE1.out, if_pos hz2])
    go_wp2
    go_ret
    exact ⟨by rw [G.out]; rfl, HK1.out.trans HK3.out⟩
  subst hz2
  have HCZ := hid (code_zero (HSZ.out rfl))
  have HE2 : Hid (R = if (withinB s.all (idsN cs) && withinB s.none (idsN cs)) = false then 6
    else if firstE (s.code.map (insC cs s.all)) ≠ 0 then firstE (s.code.map (insC cs s.all)) else depthsE s.code) := hid (by rw [HE1.out, if_neg (by simp)])
  clear HE1 HSZ
  obtain ⟨s0, s1⟩ := HS.out _ HK3.out
  go_wp2_with fail
  refine (sch_ids v cs p cap _ HSM.out.1 (HCP.out _ HK3.out)).mono ?_
  rintro r w4 ⟨pi, ci, rfl, hown4, hk4⟩
  have HK4 := hid (HK3.out.trans hk4)
  have hso := sig_of (cs.map (·.id)) pi ci w3.heap.size w4 (by rw [List.length_map]; exact HLEN.out) HIDS2.out (by rw [List.length_map, List.map_map]; exact hown4)
  rw [List.length_map] at hso
  have HSO := hid hso
  clear hk4 hown4 hso s0 s1
  go_wp2_with fail
  refine HSO.out.mono ?_
  rintro r w_ ⟨rfl, rfl⟩
  have HLT : Hid (idsN cs < 4294967296) := hid (orN_lt _ 0 (by omega))
  have HOR : Hid (orN (cs.map (·.id)) = idsN cs) := hid rfl
  rw [HOR.out]
  clear HOR HSO
  generalize idsN cs = ids at *
  obtain ⟨c0, c1, c2, c3, c4, c5⟩ := HC.out _ HK4.out
  go_wp2_with fail
  refine (sig_within s.all ids H1.out HLT.out _).mono ?_
  rintro r w_ ⟨rfl, rfl⟩
  cases hw1 : withinB s.all ids
  · have G : Hid (R = 6) := hid (by rw [HE2.out, if_pos (by rw [hw1]; rfl)])
    clear hw1
    go_wp2
    go_ret
    exact ⟨by rw [G.out]; rfl, HK1.out.trans HK4.out⟩
  go_wp2_with fail
  refine (sig_within s.none ids H2.out HLT.out _).mono ?_
  rintro r w_ ⟨rfl, rfl⟩
  cases hw2 : withinB s.none ids
  · have G : Hid (R = 6) := hid (by rw [HE2.out, if_pos (by rw [hw1, hw2]; rfl)])
    clear hw1 hw2
    go_wp2
    go_ret
    exact ⟨by rw [G.out]; rfl, HK1.out.trans HK4.out⟩
  have HE3 : Hid (R = if firstE (s.code.map (insC cs s.all)) ≠ 0 then firstE (s.code.map (insC cs s.all)) else depthsE s.code) := hid (by rw [HE2.out, if_neg (by rw [hw1, hw2]; simp)])
  clear HE2 hw1 hw2
  have hl64 := HCZ.out.1
  go_wp2_with fail
  clear c0 c1 c2 c3 c4 c5
  go_loopw [10, 11, 45] (fun _ _ i wr => ∃ k : Nat, k ≤ s.code.length ∧ i = iV k ∧ (∀ j, j < k → (s.code.map (insC cs s.all))[j]? = some 0) ∧ Keep (fun _ => False) w1 wr) (fun _ _ i _ => s.code.length + 1 - (intOf i).toNat)
  case atStart => exact ⟨0, by omega, rfl, fun j h => by omega, HK4.out⟩
  case round =>
    obtain ⟨k, hk, rfl, hall, hkr⟩ := hrel
    have HALL := hid hall; have HKR := hid hkr
    clear hall hkr
    by_cases hlt : k < s.code.length
    · obtain ⟨x, hx⟩ : ∃ x, s.code[k]? = some x := ⟨s.code[k], by simp [hlt]⟩
      have HXE : Hid ((s.code.map (insC cs s.all))[k]? = some (insC cs s.all x)) := hid (by rw [List.getElem?_map, hx]; rfl)
      have HG := hid (HCZ.out.2 x (List.mem_of_getElem? hx))
      obtain ⟨b, off, rfl, hb, y0, y1, y2, y3, y4⟩ := VP.at (HVP.out _ HKR.out) hx
      have hin : (0 : Int) ≤ (k : Int) ∧ (k : Int) < (s.code.length : Int) := ⟨by omega, by omega⟩
      obtain ⟨w5, hw5, hb5, hs5, hk5⟩ := box1 wr (OC x) 54
      have HK5 := hid (HKR.out.trans hk5); have HB5 := hid hb5
      clear hx hb hb5 hs5 hk5
      go_upto_region 13 with fail
      rw [← hw5]
      clear hw5 y0 y1 y2 y3 y4
      generalize wr.heap.size = xb at *
      obtain ⟨c0, c1, c2, c3, c4, c5⟩ := HC.out _ HK5.out
      obtain ⟨s0, s1⟩ := HS.out _ HK5.out
      have y0 : w5.cell? ⟨xb, 0, none⟩ = some (.int .i64 x.code) := cell_of HB5.out (by rfl)
      have y1 : w5.cell? ⟨xb, 1, none⟩ = some (.int .i64 x.a) := cell_of HB5.out (by rfl)
      have y2 : w5.cell? ⟨xb, 2, none⟩ = some (.int .i64 x.b) := cell_of HB5.out (by rfl)
      have y3 : w5.cell? ⟨xb, 3, none⟩ = some (.int .i64 x.c) := cell_of HB5.out (by rfl)
      have y4 : w5.cell? ⟨xb, 4, none⟩ = some (.int .i64 x.k) := cell_of HB5.out (by rfl)
      go_wp2_with fail
      refine (ins_of v cs p cap s.all x _ H1.out (fun h => good_load HG.out h) HSM.out (HCP.out _ HK5.out)).mono ?_
      rintro r w6 ⟨rfl, hk6⟩
      have HK6 := hid (HK5.out.trans hk6)
      clear hk6 c0 c1 c2 c3 c4 c5 s0 s1 y0 y1 y2 y3 y4
      generalize insC cs s.all x = z at *
      by_cases hz : z = 0
      · subst hz
        have HN : Hid (∀ j, j < k + 1 → (s.code.map (insC cs s.all))[j]? = some 0) := hid (fun j hj => by
          by_cases hjk : j < k
          · exact HALL.out j hjk
          · have : j = k := by omega
            subst this; exact HXE.out)
        go_wp2
        go_roundw
        case rel => exact ⟨k + 1, by omega, by go_num, HN.out, HK6.out⟩
        case measure => simp [intOf]; omega
      · have g1 : ((z : Int) != 0) = true := by rw [bne, beq_eq_false_iff_ne.2 (show (z : Int) ≠ 0 by omega)]; rfl
        have g2 : (z != 0) = true := by rw [bne, beq_eq_false_iff_ne.2 hz]; rfl
        have hfe := firstE_at HXE.out hz HALL.out
        have G : Hid (R = z) := hid (by rw [HE3.out, hfe, if_pos hz])
        clear hfe hz
        go_wp2
        go_ret
        exact ⟨by rw [G.out]; rfl, HK1.out.trans HK6.out⟩
    · obtain rfl : k = s.code.length := by omega
      have g1 : decide ((s.code.length : Int) < (s.code.length : Int)) = false := decide_eq_false (by omega)
      have g2 : decide (s.code.length < s.code.length) = false := decide_eq_false (by omega)
      have hfe : firstE (s.code.map (insC cs s.all)) = 0 := firstE_none (fun e he => by
        obtain ⟨j, hj⟩ := List.getElem?_of_mem he
        have hjl : j < s.code.length := by have := (List.getElem?_eq_some_iff.1 hj).1; rwa [List.length_map] at this
        rw [HALL.out j hjl] at hj
        injection hj with hj
        exact hj.symm)
      have G : Hid (R = depthsE s.code) := hid (by rw [HE3.out, hfe, if_neg (by simp)])
      clear hfe
      obtain ⟨c0, c1, c2, c3, c4, c5⟩ := HC.out _ HKR.out
      go_wp2_with fail
      refine (verify_depths s.code pc cc _ (HVP.out _ HKR.out)).mono ?_
      rintro r w6 ⟨da, dc, rfl, _, hk6⟩
      have HK6 := hid (HKR.out.trans hk6)
      clear hk6 c0 c1 c2 c3 c4 c5 g1 g2
      rw [← G.out]
      go_wp2
      go_ret
      exact ⟨rfl, HK1.out.trans HK6.out⟩
end Go.Proofs.Ytcbboaoakgngkaa
