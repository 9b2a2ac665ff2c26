/- What is proved: what a schema that can be is, in plain terms: its ids ascend, its names differ, its fields' names differ; what is left of it can be, too. No program. -/
import Derived.Test.YtjebgidddfamlaaMSchCheck
import Derived.Test.YtjebgidddfamlaaMOct
namespace Go.Proofs.Ytjebgidddfamlaa
open Go.RowKit Go.Proofs.Heap Go.Proofs.Sch

def ApartC (a b : Cmp) : Prop := a.id < b.id ∧ a.name ≠ b.name
/-- What Check asks of the components. -/
def GoodC (last : Int) (seen : List ByteArray) (cs : List Cmp) : Prop :=
  (∀ c ∈ cs, last < c.id ∧ c.id ≤ 24 ∧ nameB c.name = true ∧ memB c.name seen = false ∧ fieldsC c.fs = 0) ∧ cs.Pairwise ApartC

theorem memB_snoc (s m : ByteArray) (ns : List ByteArray) : memB s (ns ++ [m]) = false ↔ memB s ns = false ∧ s ≠ m := by
  unfold memB
  rw [List.any_append]
  simp [Bool.or_eq_false_iff]

theorem compsC_iff : ∀ (cs : List Cmp) (last : Int) (seen : List ByteArray), compsC last seen cs = 0 ↔ GoodC last seen cs
  | [], last, seen => by simp [compsC, GoodC]
  | c :: r, last, seen => by
    unfold compsC
    have ih := compsC_iff r c.id (seen ++ [c.name])
    by_cases h1 : c.id ≤ last ∨ 24 < c.id
    · rw [if_pos h1]
      refine ⟨fun h => by omega, fun h => ?_⟩
      have := h.1 c (List.mem_cons_self ..)
      omega
    rw [if_neg h1]
    by_cases h2 : nameB c.name = false ∨ memB c.name seen = true
    · rw [if_pos h2]
      refine ⟨fun h => by omega, fun h => ?_⟩
      have h3 := h.1 c (List.mem_cons_self ..)
      rcases h2 with e | e
      · rw [e] at h3; simp at h3
      · rw [e] at h3; simp at h3
    rw [if_neg h2]
    by_cases h3 : fieldsC c.fs = 0
    · rw [if_pos h3, ih]
      have hn : nameB c.name = true := by
        cases e : nameB c.name
        · exact absurd (.inl e) h2
        · rfl
      have hm : memB c.name seen = false := by
        cases e : memB c.name seen
        · rfl
        · exact absurd (.inr e) h2
      constructor
      · rintro ⟨ha, hp⟩
        refine ⟨fun d hd => ?_, List.pairwise_cons.2 ⟨fun d hd => ?_, hp⟩⟩
        · rcases List.mem_cons.1 hd with rfl | hd
          · exact ⟨by omega, by omega, hn, hm, h3⟩
          · obtain ⟨a1, a2, a3, a4, a5⟩ := ha d hd
            exact ⟨by omega, a2, a3, ((memB_snoc _ _ _).1 a4).1, a5⟩
        · obtain ⟨a1, _, _, a4, _⟩ := ha d hd
          exact ⟨a1, fun e => ((memB_snoc _ _ _).1 a4).2 e.symm⟩
      · rintro ⟨ha, hp⟩
        obtain ⟨hp1, hp2⟩ := List.pairwise_cons.1 hp
        refine ⟨fun d hd => ?_, hp2⟩
        obtain ⟨_, a2, a3, a4, a5⟩ := ha d (List.mem_cons_of_mem _ hd)
        exact ⟨(hp1 d hd).1, a2, a3, (memB_snoc _ _ _).2 ⟨a4, fun e => (hp1 d hd).2 e.symm⟩, a5⟩
    · rw [if_neg h3]
      exact ⟨fun h => absurd h h3, fun h => absurd (h.1 c (List.mem_cons_self ..)).2.2.2.2 h3⟩

/-- A schema that can be. -/
def GoodS (v : Int) (cs : List Cmp) : Prop := (1 ≤ v ∧ v ≤ 1073741824) ∧ GoodC 0 [] cs
theorem checkC_iff (v : Int) (cs : List Cmp) : checkC v cs = 0 ↔ GoodS v cs := by
  unfold checkC GoodS
  by_cases h : v < 1 ∨ 1073741824 < v
  · rw [if_pos h]
    exact ⟨fun h => by omega, fun h => by omega⟩
  · rw [if_neg h, compsC_iff]
    exact ⟨fun hg => ⟨by omega, hg⟩, fun hg => hg.2⟩
theorem GoodC.sub {last : Int} {seen : List ByteArray} {cs ds : List Cmp} (h : GoodC last seen cs) (hs : ds.Sublist cs) : GoodC last seen ds :=
  ⟨fun c hc => h.1 c (hs.subset hc), h.2.sublist hs⟩
theorem checkC_less {v : Int} {cs : List Cmp} (h : checkC v cs = 0) (k : Nat) : checkC v (cs.take k ++ cs.drop (k + 1)) = 0 := by
  rw [checkC_iff] at h ⊢
  refine ⟨h.1, h.2.sub ?_⟩
  have h1 : (cs.take k ++ cs.drop (k + 1)).Sublist (cs.take k ++ cs.drop k) := by
    refine List.Sublist.append (List.Sublist.refl _) ?_
    rw [← List.drop_drop]
    exact List.drop_sublist _ _
  rwa [List.take_append_drop] at h1

/-- What differs from all that came earlier is found where it is. -/
theorem pair_idx {α β : Type} [DecidableEq β] (f : α → β) {l : List α} (h : l.Pairwise (fun a b => f a ≠ f b)) {k : Nat} {x : α} (hk : l[k]? = some x) : idxI (fun y => decide (f y = f x)) l = (k : Int) := by
  refine idx_at hk (decide_eq_true rfl) (fun y hy => decide_eq_false ?_)
  obtain ⟨i, hi⟩ := List.getElem?_of_mem hy
  have hlt := (List.getElem?_eq_some_iff.1 hi).1
  rw [List.length_take] at hlt
  rw [List.getElem?_take_of_lt (by omega)] at hi
  obtain ⟨h1, rfl⟩ := List.getElem?_eq_some_iff.1 hi
  obtain ⟨h2, rfl⟩ := List.getElem?_eq_some_iff.1 hk
  exact (List.pairwise_iff_getElem.1 h) i k h1 h2 (by omega)
theorem GoodS.id_idx {v : Int} {cs : List Cmp} (h : GoodS v cs) {k : Nat} {c : Cmp} (hk : cs[k]? = some c) : idxI (fun y => decide (y.id = c.id)) cs = (k : Int) :=
  pair_idx Cmp.id (h.2.2.imp fun hab => by have := hab.1; omega) hk
theorem GoodS.name_idx {v : Int} {cs : List Cmp} (h : GoodS v cs) {k : Nat} {c : Cmp} (hk : cs[k]? = some c) : idxI (fun y => decide (y.name = c.name)) cs = (k : Int) :=
  pair_idx Cmp.name (h.2.2.imp fun hab => hab.2) hk

theorem fldBad_iff : ∀ (fs : List Fld) (seen : List ByteArray), fldBad seen fs = false → (∀ f ∈ fs, nameB f.name = true ∧ memB f.name seen = false) ∧ fs.Pairwise (fun a b => a.name ≠ b.name)
  | [], _, _ => ⟨fun _ h => by simp at h, .nil⟩
  | f :: r, seen, h => by
    unfold fldBad at h
    simp only [Bool.or_eq_false_iff, Bool.not_eq_false'] at h
    obtain ⟨h1, h2, h3⟩ := h
    obtain ⟨ha, hp⟩ := fldBad_iff r _ h3
    refine ⟨fun d hd => ?_, List.pairwise_cons.2 ⟨fun d hd => ?_, hp⟩⟩
    · rcases List.mem_cons.1 hd with rfl | hd
      · exact ⟨h1, h2⟩
      · exact ⟨(ha d hd).1, ((memB_snoc _ _ _).1 (ha d hd).2).1⟩
    · exact fun e => ((memB_snoc _ _ _).1 (ha d hd).2).2 e.symm
theorem fieldsC_zero {fs : List Fld} (h : fieldsC fs = 0) : fldBad [] fs = false ∧ layC fs = 0 := by
  unfold fieldsC at h
  cases e : fldBad [] fs
  · rw [e] at h; simp at h; exact ⟨rfl, h⟩
  · rw [e] at h; simp at h
theorem GoodS.field_idx {v : Int} {cs : List Cmp} (h : GoodS v cs) {c : Cmp} (hc : c ∈ cs) {j : Nat} {f : Fld} (hj : c.fs[j]? = some f) : idxI (fun y : Fld => decide (y.name = f.name)) c.fs = (j : Int) :=
  pair_idx Fld.name (fldBad_iff _ _ (fieldsC_zero (h.2.1 c hc).2.2.2.2).1).2 hj
end Go.Proofs.Ytjebgidddfamlaa

namespace Go.Proofs.Ytjebgidddfamlaa
open Go.RowKit Go.Proofs.Heap Go.Proofs.Sch

theorem idx_cases {α : Type} (q : α → Bool) (l : List α) : idxI q l = -1 ∨ ∃ (k : Nat) (x : α), idxI q l = (k : Int) ∧ l[k]? = some x ∧ q x = true ∧ k < l.length := by
  unfold idxI
  cases h : l.findIdx? q with
  | none => exact .inl rfl
  | some k =>
    obtain ⟨hk, h1, _⟩ := List.findIdx?_eq_some_iff_getElem.1 h
    exact .inr ⟨k, l[k], rfl, List.getElem?_eq_getElem hk, h1, hk⟩

/-- What a search answers: the first one, with a row of its own, or none. -/
def Found (B : Nat) (w' : World) (q : Cmp → Bool) (cs : List Cmp) (r : Ending) : Prop :=
  (∃ (k : Nat) (c : Cmp) (p : Option Addr) (z : Nat), idxI q cs = (k : Int) ∧ cs[k]? = some c ∧ q c = true ∧ r = .returned (.tuple #[.agg #[.int .i64 c.id, .string c.name, .slice p c.fs.length z], .bool true]) ∧ c.fs.length ≤ z ∧ w'.ownsRow B 27 3 (.slice p c.fs.length z) c.fs.length (c.fs.flatMap fcl)) ∨
  (idxI q cs = -1 ∧ r = .returned (.tuple #[.agg #[.int .i64 0, .string ⟨#[]⟩, .slice none 0 0], .bool false]))

set_option maxRecDepth 20000 in
set_option maxHeartbeats 2000000 in
theorem find_id (id : Int) (cb : Nat) (v : Int) (cs : List Cmp) (p : Option Addr) (cap : Nat) (w : World) (hl : Small cs) (hf : CP w w.heap.size p cs) (hc : w.cell? ⟨cb, 0, none⟩ = some (.int .i64 id)) :
    Calls Try.prog 45 #[.agg #[.int .i64 v, .slice p cs.length cap], .func (.func 46) #[] #[.pointer (some ⟨cb, 0, none⟩)]] w fun r w' => Found w.heap.size w' (fun c => decide (c.id = id)) cs r ∧ Keep (fun _ => False) w w' := by
  have hk0 := ((Keep.refl (fun _ => False) w).alloc (.cells #[.int .i64 v, .slice p cs.length cap] 46)).alloc (.cells #[.int .i64 0, .string ⟨#[]⟩, .slice none 0 0] 24)
  have hb1 := ((Keep.refl (fun _ => False) (w.alloc (.cells #[.int .i64 v, .slice p cs.length cap] 46))).alloc (.cells #[.int .i64 0, .string ⟨#[]⟩, .slice none 0 0] 24)).get (heap_alloc_new w (.cells #[.int .i64 v, .slice p cs.length cap] 46)) (fun h => h)
  have hb2 := heap_alloc_new (w.alloc (.cells #[.int .i64 v, .slice p cs.length cap] 46)) (.cells #[.int .i64 0, .string ⟨#[]⟩, .slice none 0 0] 24)
  have hsz : (w.alloc (.cells #[.int .i64 v, .slice p cs.length cap] 46)).heap.size = w.heap.size + 1 := by simp
  rw [hsz] at hb2
  have hlow := Low.keep0 hk0
  have hc2 := (hlow.cell (o := 0) (World.block_lt_of_cell? w _ hc)).trans hc
  have HC2 := hid hc2
  have HF := hid (CP.mono (CP.low hf hlow) hk0.size)
  have HK0 := hid hk0; have HB1 := hid hb1; have HB2 := hid hb2
  have HL := hid hl
  have hl1 := hl.1
  have hsq := hk0.size
  clear hl hf hb1 hb2 hk0 hsz hlow hc hc2 hsq
  go_enter Try.func45, Try.ntmps45
  go_upto_region 1 with fail
  generalize (w.alloc (.cells #[.int .i64 v, .slice p cs.length cap] 46)).alloc (.cells #[.int .i64 0, .string ⟨#[]⟩, .slice none 0 0] 24) = w0 at *
  have HSB : Hid (w.heap.size + 1 < w0.heap.size) := hid (lt_of_heap HB2.out)
  generalize hsb : w.heap.size = sb at *
  have d1 : w0.cell? ⟨sb, 1, none⟩ = some (.slice p cs.length cap) := cell_of HB1.out (by rfl)
  go_wp2_with fail
  refine (idx_find id cb cs p cap _ hl1 HF.out HC2.out).mono ?_
  rintro r w1 ⟨rfl, hk1⟩
  have HK1 := hid (HK0.out.trans hk1)
  have HB1' := hid (hk1.get HB1.out (fun h => h)); have HB2' := hid (hk1.get HB2.out (fun h => h))
  have HF1 := hid (CP.mono (CP.low HF.out (Low.keep0 hk1)) hk1.size)
  have HS1 := hid (Nat.lt_of_lt_of_le HSB.out hk1.size)
  clear hk1 d1
  have HCS := hid (idx_cases (fun c => decide (c.id = id)) cs)
  generalize hz : idxI (fun c => decide (c.id = id)) cs = z at *
  have HZ := hid hz
  clear hz
  rcases HCS.out with h | ⟨k, c, h, hck, hqc, hkl⟩
  · subst h
    have c0 := cell_of HB2'.out (i := 0) (by rfl)
    have c1 := cell_of HB2'.out (i := 1) (by rfl)
    have c2 := cell_of HB2'.out (i := 2) (by rfl)
    have f0 := free_of HB2'.out 0
    have f1 := free_of HB2'.out 1
    have f2 := free_of HB2'.out 2
    have g1 : decide ((-1 : Int) < 0) = true := by decide
    go_wp2
    (try simp only [Exit.inBlock, Exit.then])
    refine bodyPost_ret (results_ct rfl _ rfl (run_loadVar_row _ (sb + 1) _ 24 _ _ _ (cells3 (.int .i64 0) (.string ⟨#[]⟩) (.slice none 0 0) HB2'.out) Try.underlying24 rfl (by kernel_rfl))) rfl ?_
    exact ⟨.inr ⟨HZ.out, rfl⟩, ((HK1.out.setCell_new (by simp [hsb]) _).setCell_new (by simp [hsb]) _).setCell_new (by simp [hsb]) _⟩
  · subst h
    have g1 : decide ((k : Int) < 0) = false := decide_eq_false (by omega)
    obtain ⟨b, off, fq, fk, rfl, hb, c0, c1, c2, hle, hff⟩ := CP.at HF1.out hck
    have hin : (0 : Int) ≤ (k : Int) ∧ (k : Int) < (cs.length : Int) := ⟨by omega, by omega⟩
    have hxl := HL.out.2 c (List.mem_of_getElem? hck)
    have d1 : w1.cell? ⟨sb, 1, none⟩ = some (.slice (some ⟨b, off, none⟩) cs.length cap) := cell_of HB1'.out (by rfl)
    have hk2 := (Keep.refl (fun _ => False) w1).alloc (.cells #[.int .i64 c.id, .string c.name, .slice fq c.fs.length fk] 24)
    have HFF := hid (FP.mono (FP.low hff (Low.keep0 hk2)) hk2.size)
    have HCB := hid (heap_alloc_new w1 (.cells #[.int .i64 c.id, .string c.name, .slice fq c.fs.length fk] 24))
    have HK2 := hid (HK1.out.trans hk2); have HB3 := hid (hk2.get HB2'.out (fun h => h))
    have HCK := hid hck; have HQC := hid hqc
    clear hff hk2 hck hqc
    go_wp2_with fail
    generalize w1.alloc (.cells #[.int .i64 c.id, .string c.name, .slice fq c.fs.length fk] 24) = wa at *
    have hqs := HS1.out
    have HQN : Hid (w1.heap.size ≠ sb + 1) := hid (by omega)
    have HSQ := hid (Nat.le_trans HK1.out.size (Nat.le_refl _))
    generalize w1.heap.size = q at *
    refine (clone_fields c.fs fq fk _ hxl HFF.out).mono ?_
    rintro r w3 ⟨p2, z2, rfl, hz2, hown, hk3⟩
    have HK3 := hid (HK2.out.trans hk3)
    have HCB3 := hid (hk3.get HCB.out (fun h => h)); have HB4 := hid (hk3.get HB3.out (fun h => h))
    have HOWN := hid hown
    have HLQ := hid (lt_of_heap HCB.out)
    have e0 := cell_of HCB3.out (i := 0) (by rfl)
    have e1 := cell_of HCB3.out (i := 1) (by rfl)
    have e2 := cell_of HCB3.out (i := 2) (by rfl)
    have e3 := free_of HCB3.out 2
    have c0 := cell_of HB4.out (i := 0) (by rfl)
    have c1 := cell_of HB4.out (i := 1) (by rfl)
    have c2 := cell_of HB4.out (i := 2) (by rfl)
    have f0 := free_of HB4.out 0
    have f1 := free_of HB4.out 1
    have f2 := free_of HB4.out 2
    have HWS : Hid (wa.heap.size ≤ w3.heap.size) := hid hk3.size
    have HW1 : Hid (w.heap.size ≤ w3.heap.size) := hid HK3.out.size
    clear hk3 hown
    go_wp2
    (try simp only [Exit.inBlock, Exit.then])
    have hr := cells3 (.int .i64 c.id) (.string c.name) (.slice p2 c.fs.length z2) ((hsc_ne (w := w3) (g := q) (i := 2) (k := sb + 1) (.slice p2 c.fs.length z2) (by have := HQN.out; omega)).trans HB4.out)
    refine bodyPost_ret (results_ct rfl _ rfl (run_loadVar_row _ (sb + 1) _ 24 _ _ _ hr Try.underlying24 rfl (by kernel_rfl))) rfl ?_
    refine ⟨.inl ⟨k, c, p2, z2, HZ.out, HCK.out, HQC.out, rfl, hz2, ?_⟩, (((HK3.out.setCell_new (by have := HSQ.out; simp [hsb] at this ⊢; omega) _).setCell_new (by simp [hsb]) _).setCell_new (by simp [hsb]) _).setCell_new (by simp [hsb]) _⟩
    have ho := owns_keep (w' := (((w3.setCell ⟨q, 2, none⟩ (.slice p2 c.fs.length z2)).setCell ⟨sb + 1, 0, none⟩ (.int .i64 c.id)).setCell ⟨sb + 1, 1, none⟩ (.string c.name)).setCell ⟨sb + 1, 2, none⟩ (.slice p2 c.fs.length z2)) HOWN.out (fun g hg => by
      have h1 := (HOWN.out.lt g hg).1
      have h2 := HLQ.out; have h3 := HSQ.out; have h4 := hqs
      rw [hsc_ne _ (by omega), hsc_ne _ (by omega), hsc_ne _ (by omega), hsc_ne _ (by omega)])
    exact owns_mono ho (by have := HSQ.out; have := HLQ.out; omega)

set_option maxRecDepth 20000 in
set_option maxHeartbeats 1000000 in
theorem sch_find (id : Int) (v : Int) (cs : List Cmp) (p : Option Addr) (cap : Nat) (w : World) (hl : Small cs) (hf : CP w w.heap.size p cs) :
    Calls Try.prog 18 #[.agg #[.int .i64 v, .slice p cs.length cap], .int .i64 id] w fun r w' => Found w.heap.size w' (fun c => decide (c.id = id)) cs r ∧ Keep (fun _ => False) w w' := by
  have hk0 : Keep (fun _ => False) w (((w.alloc (.cells #[.int .i64 v, .slice p cs.length cap] 46)).alloc (.cells #[.int .i64 id] 3)).alloc (.cells #[.int .i64 0, .string ⟨#[]⟩, .slice none 0 0] 24)) := (((Keep.refl (fun _ => False) w).alloc _).alloc _).alloc _
  have hb1 : (((w.alloc (.cells #[.int .i64 v, .slice p cs.length cap] 46)).alloc (.cells #[.int .i64 id] 3)).alloc (.cells #[.int .i64 0, .string ⟨#[]⟩, .slice none 0 0] 24)).heap[w.heap.size]? = some (.cells #[.int .i64 v, .slice p cs.length cap] 46 (0, 0)) := ((((Keep.refl (fun _ => False) _).alloc _).alloc _).get (heap_alloc_new w _) (fun h => h))
  have hb2 : (((w.alloc (.cells #[.int .i64 v, .slice p cs.length cap] 46)).alloc (.cells #[.int .i64 id] 3)).alloc (.cells #[.int .i64 0, .string ⟨#[]⟩, .slice none 0 0] 24)).heap[w.heap.size + 1]? = some (.cells #[.int .i64 id] 3 (0, 0)) := by
    have := (((Keep.refl (fun _ => False) ((w.alloc (.cells #[.int .i64 v, .slice p cs.length cap] 46)).alloc (.cells #[.int .i64 id] 3))).alloc (.cells #[.int .i64 0, .string ⟨#[]⟩, .slice none 0 0] 24)).get (heap_alloc_new (w.alloc (.cells #[.int .i64 v, .slice p cs.length cap] 46)) (.cells #[.int .i64 id] 3)) (fun h => h))
    simpa using this
  have hb3 : (((w.alloc (.cells #[.int .i64 v, .slice p cs.length cap] 46)).alloc (.cells #[.int .i64 id] 3)).alloc (.cells #[.int .i64 0, .string ⟨#[]⟩, .slice none 0 0] 24)).heap[w.heap.size + 2]? = some (.cells #[.int .i64 0, .string ⟨#[]⟩, .slice none 0 0] 24 (0, 0)) := by
    have := heap_alloc_new ((w.alloc (.cells #[.int .i64 v, .slice p cs.length cap] 46)).alloc (.cells #[.int .i64 id] 3)) (.cells #[.int .i64 0, .string ⟨#[]⟩, .slice none 0 0] 24)
    simpa using this
  have HF := hid (CP.mono (CP.low hf (Low.keep0 hk0)) hk0.size)
  have HK0 := hid hk0; have HB1 := hid hb1; have HB2 := hid hb2; have HB3 := hid hb3
  have HL := hid hl
  clear hl hf hb1 hb2 hb3 hk0
  go_enter Try.func18, Try.ntmps18
  go_upto_region 1 with fail
  generalize (((w.alloc (.cells #[.int .i64 v, .slice p cs.length cap] 46)).alloc (.cells #[.int .i64 id] 3)).alloc (.cells #[.int .i64 0, .string ⟨#[]⟩, .slice none 0 0] 24)) = w0 at *
  generalize hsb : w.heap.size = sb at *
  have d0 : w0.cell? ⟨sb, 0, none⟩ = some (.int .i64 v) := cell_of HB1.out (by rfl)
  have d1 : w0.cell? ⟨sb, 1, none⟩ = some (.slice p cs.length cap) := cell_of HB1.out (by rfl)
  have HC : Hid (w0.cell? ⟨sb + 1, 0, none⟩ = some (.int .i64 id)) := hid (cell_of HB2.out (by rfl))
  go_wp2_with fail
  refine (find_id id (sb + 1) v cs p cap _ HL.out HF.out HC.out).mono ?_
  rintro r w1 ⟨hr, hk1⟩
  have HK1 := hid (HK0.out.trans hk1)
  have HB4 := hid (hk1.get HB3.out (fun h => h))
  have HS := hid (lt_of_heap HB3.out)
  have HW1 : Hid (w0.heap.size ≤ w1.heap.size) := hid hk1.size
  clear hk1 d0 d1
  have c0 := cell_of HB4.out (i := 0) (by rfl)
  have c1 := cell_of HB4.out (i := 1) (by rfl)
  have c2 := cell_of HB4.out (i := 2) (by rfl)
  have f0 := free_of HB4.out 0
  have f1 := free_of HB4.out 1
  have f2 := free_of HB4.out 2
  rcases hr with ⟨k, c, p2, z, hz, hck, hqc, rfl, hle, hfp⟩ | ⟨hz, rfl⟩
  · have HZ := hid hz; have HCK := hid hck; have HFP := hid hfp; have HQC := hid hqc
    clear hz hck hfp hqc
    go_wp2
    (try simp only [Exit.inBlock, Exit.then])
    refine bodyPost_ret (results_ct rfl _ rfl (run_loadVar_row _ (sb + 2) _ 24 _ _ _ (cells3 (.int .i64 c.id) (.string c.name) (.slice p2 c.fs.length z) HB4.out) Try.underlying24 rfl (by kernel_rfl))) rfl ?_
    refine ⟨.inl ⟨k, c, p2, z, HZ.out, HCK.out, HQC.out, rfl, hle, ?_⟩, ((HK1.out.setCell_new (by show w.heap.size ≤ sb + 2; omega) _).setCell_new (by show w.heap.size ≤ sb + 2; omega) _).setCell_new (by show w.heap.size ≤ sb + 2; omega) _⟩
    have h2 := HS.out; have h3 := HK0.out.size
    exact owns_mono (owns_keep HFP.out (fun g hg => by
      have h1 := (HFP.out.lt g hg).1
      rw [hsc_ne _ (by omega), hsc_ne _ (by omega), hsc_ne _ (by omega)])) (by omega)
  · have HZ := hid hz
    clear hz
    go_wp2
    (try simp only [Exit.inBlock, Exit.then])
    refine bodyPost_ret (results_ct rfl _ rfl (run_loadVar_row _ (sb + 2) _ 24 _ _ _ (cells3 (.int .i64 0) (.string ⟨#[]⟩) (.slice none 0 0) HB4.out) Try.underlying24 rfl (by kernel_rfl))) rfl ?_
    exact ⟨.inr ⟨HZ.out, rfl⟩, ((HK1.out.setCell_new (by show w.heap.size ≤ sb + 2; omega) _).setCell_new (by show w.heap.size ≤ sb + 2; omega) _).setCell_new (by show w.heap.size ≤ sb + 2; omega) _⟩

end Go.Proofs.Ytjebgidddfamlaa

namespace Go.Proofs.Ytjebgidddfamlaa
open Go.RowKit Go.Proofs.Heap Go.Proofs.Sch

theorem results_tt {fn : Func} {p u : Tmp} (h : fn.results = #[.tmp p, .tmp u]) (tmps : Array Value) {P : Program} {w : World} : (results fn tmps).run P w = .ok (.tuple #[tmps.getD p undef, tmps.getD u undef]) w := by
  simp [results, h]

theorem fnamed_clo (f : Fld) (cb : Nat) (s : ByteArray) (w : World) (hc : w.cell? ⟨cb, 0, none⟩ = some (.string s)) :
    Calls Try.prog 68 #[.agg #[.string f.name, .int .i64 f.kind, .int .i64 f.count], .pointer (some ⟨cb, 0, none⟩)] w fun r w' => r = .returned (.bool (decide (f.name = s))) ∧ Keep (fun _ => False) w w' := by
  have hk := (Keep.refl (fun _ => False) w).alloc (.cells #[.string f.name, .int .i64 f.kind, .int .i64 f.count] 27)
  have HK := hid hk
  have hlt := World.block_lt_of_cell? w _ hc
  have hc2 := ((Low.keep0 hk).cell (o := 0) hlt).trans hc
  have hs := seq_dec f.name s
  clear hk
  go_enter Try.func68, Try.ntmps68
  go_wp2
  go_ret
  exact ⟨by first | rfl | (rw [← hs]; rfl), HK.out⟩

set_option maxRecDepth 20000 in
set_option maxHeartbeats 2000000 in
theorem idx_fields (s : ByteArray) (cb : Nat) (fs : List Fld) (p : Option Addr) (cap : Nat) (w : World) (hl : fs.length ≤ 4398046511104) (hf : FP w w.heap.size p fs) (hc : w.cell? ⟨cb, 0, none⟩ = some (.string s)) :
    Calls Try.prog 67 #[.slice p fs.length cap, .func (.func 68) #[] #[.pointer (some ⟨cb, 0, none⟩)]] w fun r w' => r = .returned (.int .i64 (idxI (fun f => decide (f.name = s)) fs)) ∧ Keep (fun _ => False) w w' := by
  have HF := hid hf
  have HQ : Hid (∀ (f : Fld) (wy : World), Keep (fun _ => False) w wy → Calls Try.prog 68 #[.agg #[.string f.name, .int .i64 f.kind, .int .i64 f.count], .pointer (some ⟨cb, 0, none⟩)] wy fun r w' => r = .returned (.bool ((fun f : Fld => decide (f.name = s)) f)) ∧ Keep (fun _ => False) wy w') :=
    hid (fun f wy hk => fnamed_clo f cb _ wy (((Low.keep0 hk).cell (o := 0) (World.block_lt_of_cell? w _ hc)).trans hc))
  obtain ⟨q, hqe⟩ : ∃ q : Fld → Bool, q = (fun f : Fld => decide (f.name = s)) := ⟨_, rfl⟩
  rw [← hqe] at HQ
  rw [← hqe]
  clear hf hc hqe
  go_enter Try.func67, Try.ntmps67
  go_wp2_with fail
  go_loopw [5, 8] (fun _ i wr => ∃ k : Nat, k ≤ fs.length ∧ i = iV k ∧ Keep (fun _ => False) w wr ∧ ∀ c ∈ fs.take k, q c = false) (fun _ i _ => fs.length + 1 - (intOf i).toNat)
  case atStart => exact ⟨0, by omega, rfl, Keep.refl _ _, by simp⟩
  case round =>
    obtain ⟨k, hk, rfl, hkeep, hall⟩ := hrel
    have HK := hid hkeep; have HA := hid hall
    clear hkeep hall
    by_cases hlt : k < fs.length
    · obtain ⟨c, hck⟩ : ∃ c, fs[k]? = some c := ⟨fs[k], by simp [hlt]⟩
      obtain ⟨b, off, rfl, hb, c0, c1, c2⟩ := FP.at (FP.low HF.out (Low.keep0 HK.out)) hck
      have hin : (0 : Int) ≤ (k : Int) ∧ (k : Int) < (fs.length : Int) := ⟨by omega, by omega⟩
      have HCK := hid hck
      clear hck
      go_wp2_with fail
      refine (HQ.out c _ HK.out).mono ?_
      rintro r w1 ⟨rfl, hk1⟩
      have HK1 := hid (HK.out.trans hk1)
      clear hk1
      cases hqc : q c
      · have HN : Hid (∀ d ∈ fs.take (k + 1), q d = false) := hid (fun d hd => by
          rw [take_next HCK.out] at hd
          rcases List.mem_append.1 hd with h | h
          · exact HA.out d h
          · rw [List.mem_singleton.1 h]; exact hqc)
        clear hqc
        go_wp2
        go_roundw
        case rel => exact ⟨k + 1, by omega, by go_num, HK1.out, HN.out⟩
        case measure => simp [intOf]; omega
      · have G3 := hid (idx_at HCK.out hqc HA.out)
        clear hqc
        go_wp2
        go_ret
        exact ⟨by rw [G3.out]; rfl, HK1.out⟩
    · obtain rfl : k = fs.length := by omega
      have G3 := hid (idx_none (q := q) (l := fs) (by have := HA.out; rwa [List.take_length] at this))
      go_wp2
      go_ret
      exact ⟨by rw [G3.out]; rfl, HK.out⟩

set_option maxRecDepth 20000 in
set_option maxHeartbeats 1000000 in
theorem field_named (c : Cmp) (s : ByteArray) (p : Option Addr) (cap : Nat) (w : World) (hl : c.fs.length ≤ 4398046511104) (hf : FP w w.heap.size p c.fs) :
    Calls Try.prog 47 #[.agg #[.int .i64 c.id, .string c.name, .slice p c.fs.length cap], .string s] w fun r w' =>
      ((idxI (fun f : Fld => decide (f.name = s)) c.fs = -1 ∧ r = .returned (.tuple #[.int .i64 0, .bool false])) ∨ (∃ k : Nat, idxI (fun f : Fld => decide (f.name = s)) c.fs = (k : Int) ∧ k < c.fs.length ∧ r = .returned (.tuple #[iV k, .bool true]))) ∧ Keep (fun _ => False) w w' := by
  have hk0 : Keep (fun _ => False) w ((w.alloc (.cells #[.int .i64 c.id, .string c.name, .slice p c.fs.length cap] 24)).alloc (.cells #[.string s] 9)) := ((Keep.refl (fun _ => False) w).alloc _).alloc _
  have hb1 : ((w.alloc (.cells #[.int .i64 c.id, .string c.name, .slice p c.fs.length cap] 24)).alloc (.cells #[.string s] 9)).heap[w.heap.size]? = some (.cells #[.int .i64 c.id, .string c.name, .slice p c.fs.length cap] 24 (0, 0)) := (((Keep.refl (fun _ => False) _).alloc _).get (heap_alloc_new w _) (fun h => h))
  have hb2 : ((w.alloc (.cells #[.int .i64 c.id, .string c.name, .slice p c.fs.length cap] 24)).alloc (.cells #[.string s] 9)).heap[w.heap.size + 1]? = some (.cells #[.string s] 9 (0, 0)) := by
    have := heap_alloc_new (w.alloc (.cells #[.int .i64 c.id, .string c.name, .slice p c.fs.length cap] 24)) (.cells #[.string s] 9)
    simpa using this
  have HF := hid (FP.mono (FP.low hf (Low.keep0 hk0)) hk0.size)
  have HK0 := hid hk0; have HB1 := hid hb1; have HB2 := hid hb2
  clear hf hb1 hb2 hk0
  go_enter Try.func47, Try.ntmps47
  go_upto_region 1 with fail
  generalize (w.alloc (.cells #[.int .i64 c.id, .string c.name, .slice p c.fs.length cap] 24)).alloc (.cells #[.string s] 9) = w0 at *
  generalize w.heap.size = sb at *
  have d1 : w0.cell? ⟨sb, 2, none⟩ = some (.slice p c.fs.length cap) := cell_of HB1.out (by rfl)
  have HC : Hid (w0.cell? ⟨sb + 1, 0, none⟩ = some (.string s)) := hid (cell_of HB2.out (by rfl))
  go_wp2_with fail
  refine (idx_fields s (sb + 1) c.fs p cap _ hl HF.out HC.out).mono ?_
  rintro r w1 ⟨rfl, hk1⟩
  have HK1 := hid (HK0.out.trans hk1)
  have HCS := hid (idx_cases (fun f : Fld => decide (f.name = s)) c.fs)
  clear hk1 d1
  generalize hz : idxI (fun f : Fld => decide (f.name = s)) c.fs = z at *
  have HZ := hid hz
  clear hz
  rcases HCS.out with h | ⟨k, x, h, _, _, hkl⟩
  · subst h
    go_wp2
    (try simp only [Exit.inBlock, Exit.then])
    refine bodyPost_ret (results_tt rfl _) rfl ?_
    exact ⟨.inl ⟨HZ.out, rfl⟩, HK1.out⟩
  · subst h
    have g1 : decide ((0 : Int) ≤ (k : Int)) = true := decide_eq_true (by omega)
    have g2 : decide ((0 : Int) < (k : Int)) = decide (0 < k) := by by_cases h : 0 < k <;> simp [h]
    go_wp2
    (try simp only [Exit.inBlock, Exit.then])
    refine bodyPost_ret (results_tt rfl _) rfl ?_
    exact ⟨.inr ⟨k, HZ.out, hkl, by first | rfl | simp⟩, HK1.out⟩

set_option maxRecDepth 20000 in
set_option maxHeartbeats 1000000 in
theorem sch_ids (v : Int) (cs : List Cmp) (p : Option Addr) (cap : Nat) (w : World) (hl1 : cs.length ≤ 2932031007402) (hf : CP w w.heap.size p cs) :
    Calls Try.prog 51 #[.agg #[.int .i64 v, .slice p cs.length cap]] w fun r w' => ∃ p' c', r = .returned (.slice p' cs.length c') ∧ w'.ownsRow w.heap.size 3 1 (.slice p' cs.length c') cs.length (cs.map (fun c => .int .i64 c.id)) ∧ Keep (fun _ => False) w w' := by
  obtain ⟨i0, hi0, hz0, hz1, hz2⟩ := info_parts' info_int
  have hb0 := heap_alloc_new w (.cells #[.int .i64 v, .slice p cs.length cap] 46)
  have hk0 := (Keep.refl (fun _ => False) w).alloc (.cells #[.int .i64 v, .slice p cs.length cap] 46)
  have HF := hid (CP.mono (CP.low hf (Low.keep0 hk0)) hk0.size)
  have HK0 := hid hk0; have HB0 := hid hb0
  clear hf hb0 hk0
  go_enter Try.func51, Try.ntmps51
  go_upto_region 1 with fail
  generalize w.alloc (.cells #[.int .i64 v, .slice p cs.length cap] 46) = w0 at *
  have HSB : Hid (w.heap.size < w0.heap.size) := hid (lt_of_heap HB0.out)
  generalize hsb : w.heap.size = sb at *
  have d1 : w0.cell? ⟨sb, 1, none⟩ = some (.slice p cs.length cap) := cell_of HB0.out (by rfl)
  go_wp2_with fail
  clear d1
  go_loopw [3, 5, 9] (fun av _ i wr => ∃ k : Nat, k ≤ cs.length ∧ i = iV k ∧ Keep (fun _ => False) w0 wr ∧ wr.ownsRow w0.heap.size 3 1 av k ((cs.take k).map (fun c => .int .i64 c.id))) (fun _ _ i _ => cs.length + 1 - (intOf i).toNat)
  case atStart => exact ⟨0, by omega, rfl, Keep.refl _ _, World.ownsRow_nil _ _ _ _⟩
  case round =>
    obtain ⟨k, hk, rfl, hkeep, hown⟩ := hrel
    have HK := hid hkeep; have HO := hid hown
    clear hkeep hown
    by_cases hlt : k < cs.length
    · obtain ⟨c, hck⟩ : ∃ c, cs[k]? = some c := ⟨cs[k], by simp [hlt]⟩
      obtain ⟨b, off, fq, fk, rfl, hb, c0, c1, c2, _, _⟩ := CP.at (CP.low HF.out (Low.keep0 HK.out)) hck
      have hin : (0 : Int) ≤ (k : Int) ∧ (k : Int) < (cs.length : Int) := ⟨by omega, by omega⟩
      have hk2 := (Keep.refl (fun _ => False) wr).alloc (.cells #[.int .i64 c.id, .string c.name, .slice fq c.fs.length fk] 24)
      have HK2 := hid (HK.out.trans hk2)
      have HO2 := hid (owns_keep HO.out (fun q hq => hk2.block q (HO.out.lt q hq).2 (fun h => h)))
      have hcb := heap_alloc_new wr (.cells #[.int .i64 c.id, .string c.name, .slice fq c.fs.length fk] 24)
      have HTK : Hid ((cs.take (k + 1)).map (fun c => Value.int .i64 c.id) = (cs.take k).map (fun c => Value.int .i64 c.id) ++ [.int .i64 c.id]) := hid (by rw [take_next hck, List.map_append]; rfl)
      have hs := HK2.out.size
      clear hck hk2
      generalize (cs.take k).map (fun c => Value.int .i64 c.id) = xs at *
      go_upto_region 5 with fail
      generalize wr.alloc (.cells #[.int .i64 c.id, .string c.name, .slice fq c.fs.length fk] 24) = wa at *
      have e0 := cell_of hcb (i := 0) (by rfl)
      clear hcb
      go_wp2_with (at_builtin; go_loud (refine wpList_append_rd rfl (.tmp 13) (.tmp 16) _ rfl w0.heap.size _ i0 _ 1 8 Try.underlying91 hi0 hz0 hz1 hz2 rfl (by decide) _ k _ (by rfl) (HO2.out.alloc _) _ 1 [.int .i64 c.id] (by rfl) (rd_block (heap_alloc_new wa _) (by simp) (by simp [Value.oneCell'])) (by unfold maxLen; omega) (by omega) (by simp; omega) ?_; intro v' w5 hown5 hgrow5 hat5 hn5; rw [← HTK.out] at hown5; have HO5 := hid hown5; have HK5 := hid ((HK2.out.alloc _).grown hgrow5 (fun k hk => .inl (HO2.out.lt k hk).1)); clear hown5 hgrow5 hat5 hn5))
      go_roundw
      case rel => exact ⟨k + 1, by omega, by go_num, HK5.out, HO5.out⟩
      case measure => simp [intOf]; omega
    · obtain rfl : k = cs.length := by omega
      rw [List.take_length] at HO
      obtain ⟨ap, ac, rfl⟩ := owns_val HO.out
      go_wp2
      go_ret
      exact ⟨ap, ac, rfl, owns_mono HO.out (by have := HSB.out; omega), HK0.out.trans HK.out⟩

end Go.Proofs.Ytjebgidddfamlaa

namespace Go.Proofs.Ytjebgidddfamlaa
open Go.RowKit Go.Proofs.Heap Go.Proofs.Sch

theorem idx_any {α : Type} (q : α → Bool) (l : List α) : (∃ k : Nat, idxI q l = (k : Int)) → l.any q = true := by
  rintro ⟨k, hk⟩
  rcases idx_cases q l with h | ⟨i, x, _, hx, hq, _⟩
  · omega
  · exact List.any_eq_true.2 ⟨x, List.mem_of_getElem? hx, hq⟩
theorem idx_any_no {α : Type} (q : α → Bool) (l : List α) (h : idxI q l = -1) : l.any q = false := by
  rw [List.any_eq_false]
  intro x hx hq
  unfold idxI at h
  cases e : l.findIdx? q with
  | none => exact absurd hq (by simpa using (List.findIdx?_eq_none_iff.1 e) x hx)
  | some k => rw [e] at h; simp only at h; omega

theorem find_any (id : Int) (v : Int) (cs : List Cmp) (p : Option Addr) (cap : Nat) (w : World) (hl : Small cs) (hf : CP w w.heap.size p cs) :
    Calls Try.prog 18 #[.agg #[.int .i64 v, .slice p cs.length cap], .int .i64 id] w fun r w' => ∃ (a : Int) (b : ByteArray) (q : Option Addr) (n z : Nat), r = .returned (.tuple #[.agg #[.int .i64 a, .string b, .slice q n z], .bool (cs.any (fun c => decide (c.id = id)))]) ∧ Keep (fun _ => False) w w' := by
  refine (sch_find id v cs p cap w hl hf).mono ?_
  rintro r w' ⟨h | h, hk⟩
  · obtain ⟨k, c, q, z, hi, _, _, rfl, _, _⟩ := h
    exact ⟨c.id, c.name, q, _, z, by rw [idx_any _ _ ⟨k, hi⟩], hk⟩
  · obtain ⟨hi, rfl⟩ := h
    exact ⟨_, _, _, _, _, by rw [idx_any_no _ _ hi], hk⟩

/-- What is found where it must be found. -/
theorem found_at {B : Nat} {w' : World} {q : Cmp → Bool} {cs : List Cmp} {r : Ending} {k : Nat} {c : Cmp} (h : Found B w' q cs r) (hi : idxI q cs = (k : Int)) (hk : cs[k]? = some c) :
    ∃ (p : Option Addr) (z : Nat), r = .returned (.tuple #[.agg #[.int .i64 c.id, .string c.name, .slice p c.fs.length z], .bool true]) ∧ c.fs.length ≤ z ∧ FP w' w'.heap.size p c.fs := by
  rcases h with ⟨k', c', p, z, h1, h2, _, rfl, h4, h5⟩ | ⟨h1, _⟩
  · have : k = k' := by omega
    subst this
    rw [hk] at h2
    injection h2 with h2
    subst h2
    exact ⟨p, z, rfl, h4, fp_own rfl h5⟩
  · omega

theorem find_at {v : Int} {cs : List Cmp} (hg : GoodS v cs) {k : Nat} {i : Int} {nm : ByteArray} {fs : List Fld} (hk : cs[k]? = some ⟨i, nm, fs⟩) (u : Int) (p : Option Addr) (cap : Nat) (w : World) (hl : Small cs) (hf : CP w w.heap.size p cs) :
    Calls Try.prog 18 #[.agg #[.int .i64 u, .slice p cs.length cap], .int .i64 i] w fun r w' => ∃ (q : Option Addr) (z : Nat), r = .returned (.tuple #[.agg #[.int .i64 i, .string nm, .slice q fs.length z], .bool true]) ∧ FP w' w'.heap.size q fs ∧ Keep (fun _ => False) w w' := by
  refine (sch_find i u cs p cap w hl hf).mono ?_
  rintro r w' ⟨h, hk'⟩
  obtain ⟨q, z, hr, _, h5⟩ := found_at h (hg.id_idx hk) hk
  exact ⟨q, z, hr, h5, hk'⟩
theorem field_at {v : Int} {cs : List Cmp} (hg : GoodS v cs) {i : Int} {nm : ByteArray} {fs : List Fld} (hc : (⟨i, nm, fs⟩ : Cmp) ∈ cs) {j : Nat} {fn : ByteArray} {a b : Int} (hj : fs[j]? = some ⟨fn, a, b⟩) (p : Option Addr) (cap : Nat) (w : World) (hl : fs.length ≤ 4398046511104) (hf : FP w w.heap.size p fs) :
    Calls Try.prog 47 #[.agg #[.int .i64 i, .string nm, .slice p fs.length cap], .string fn] w fun r w' => r = .returned (.tuple #[.int .i64 (j : Int), .bool true]) ∧ Keep (fun _ => False) w w' := by
  refine (field_named ⟨i, nm, fs⟩ fn p cap w hl hf).mono ?_
  rintro r w' ⟨h, hk'⟩
  refine ⟨?_, hk'⟩
  have hi := hg.field_idx hc hj
  simp only at hi
  rcases h with ⟨h1, _⟩ | ⟨k, h1, _, rfl⟩
  · simp only at h1; omega
  · simp only at h1
    have : k = j := by omega
    subst this
    rfl
end Go.Proofs.Ytjebgidddfamlaa

namespace Go.Proofs.Ytjebgidddfamlaa
open Go.RowKit Go.Proofs.Heap Go.Proofs.Sch Go.Proofs.Wide

set_option maxRecDepth 20000 in
set_option maxHeartbeats 4000000 in
theorem enc_clo (x : Ins) (w : World) : Calls Try.prog 80 #[InV x] w fun r w' => r = .returned (.bool (!plainB x)) ∧ Keep (fun _ => False) w w' := by
  obtain ⟨w1, hw1, hb1, hs1, hk1⟩ := box1 w #[.int .i64 x.op, .int .i64 x.a, .int .i64 x.b, .bool x.k.neg, .int .u64 (x.k.hi : Int), .int .u64 (x.k.lo : Int)] 40
  have HK1 := hid hk1
  have HP := hid (is_plain x)
  clear hs1 hk1
  obtain ⟨op, a, b, ⟨kn, kh, kl⟩⟩ := x
  simp only at hb1 hw1
  go_enter Try.func80, Try.ntmps80
  go_upto_region 1 with fail
  rw [← hw1]
  clear hw1
  generalize w.heap.size = sb at *
  have s0 : w1.cell? ⟨sb, 0, none⟩ = some (.int .i64 op) := cell_of hb1 (by rfl)
  have s1 : w1.cell? ⟨sb, 1, none⟩ = some (.int .i64 a) := cell_of hb1 (by rfl)
  have s2 : w1.cell? ⟨sb, 2, none⟩ = some (.int .i64 b) := cell_of hb1 (by rfl)
  have s3 : w1.cell? ⟨sb, 3, none⟩ = some (.bool kn) := cell_of hb1 (by rfl)
  have s4 : w1.cell? ⟨sb, 4, none⟩ = some (.int .u64 (kh : Int)) := cell_of hb1 (by rfl)
  have s5 : w1.cell? ⟨sb, 5, none⟩ = some (.int .u64 (kl : Int)) := cell_of hb1 (by rfl)
  clear hb1
  go_wp2_with fail
  refine (HP.out _).mono ?_
  rintro r w2 ⟨rfl, hk2⟩
  have HK2 := hid (HK1.out.trans hk2)
  clear hk2 s0 s1 s2 s3 s4 s5
  go_wp2
  go_ret
  exact ⟨rfl, HK2.out⟩

set_option maxRecDepth 20000 in
set_option maxHeartbeats 4000000 in
theorem idx_plain (code : List Ins) (p : Option Addr) (cap : Nat) (w : World) (hl : code.length ≤ 65536) (hf : IP w w.heap.size p code) :
    Calls Try.prog 87 #[.slice p code.length cap, .func (.func 80) #[] #[]] w fun r w' => r = .returned (.int .i64 (idxI (fun x => !plainB x) code)) ∧ Keep (fun _ => False) w w' := by
  have HF := hid hf
  obtain ⟨q, hqe⟩ : ∃ q : Ins → Bool, q = (fun x => !plainB x) := ⟨_, rfl⟩
  have HQ : Hid (∀ (x : Ins) (wy : World), Calls Try.prog 80 #[InV x] wy fun r w' => r = .returned (.bool (q x)) ∧ Keep (fun _ => False) wy w') := hid (fun x wy => by rw [hqe]; exact enc_clo x wy)
  rw [← hqe]
  clear hf hqe
  go_enter Try.func87, Try.ntmps87
  go_wp2_with fail
  go_loopw [5, 8] (fun _ i wr => ∃ k : Nat, k ≤ code.length ∧ i = iV k ∧ Keep (fun _ => False) w wr ∧ ∀ c ∈ code.take k, q c = false) (fun _ i _ => code.length + 1 - (intOf i).toNat)
  case atStart => exact ⟨0, by omega, rfl, Keep.refl _ _, by simp⟩
  case round =>
    obtain ⟨k, hk, rfl, hkeep, hall⟩ := hrel
    have HK := hid hkeep; have HA := hid hall
    clear hkeep hall
    by_cases hlt : k < code.length
    · obtain ⟨x, hxk⟩ : ∃ x, code[k]? = some x := ⟨code[k], by simp [hlt]⟩
      obtain ⟨b, off, rfl, hb, c0, c1, c2, c3, c4, c5⟩ := IP.at (IP.low HF.out (Low.keep0 HK.out)) hxk
      have hin : (0 : Int) ≤ (k : Int) ∧ (k : Int) < (code.length : Int) := ⟨by omega, by omega⟩
      have HCK := hid hxk
      clear hxk hb
      obtain ⟨op, xa, xb, ⟨kn, kh, kl⟩⟩ := x
      simp only at c0 c1 c2 c3 c4 c5
      go_wp2_with fail
      refine (HQ.out ⟨op, xa, xb, ⟨kn, kh, kl⟩⟩ _).mono ?_
      rintro r w1 ⟨rfl, hk1⟩
      have HK1 := hid (HK.out.trans hk1)
      clear hk1 c0 c1 c2 c3 c4 c5
      cases hqc : q ⟨op, xa, xb, ⟨kn, kh, kl⟩⟩
      · have HN : Hid (∀ d ∈ code.take (k + 1), q d = false) := hid (fun d hd => by
          rw [take_next HCK.out] at hd
          rcases List.mem_append.1 hd with h | h
          · exact HA.out d h
          · rw [List.mem_singleton.1 h]; exact hqc)
        clear hqc
        go_wp2
        go_roundw
        case rel => exact ⟨k + 1, by omega, by go_num, HK1.out, HN.out⟩
        case measure => simp [intOf]; omega
      · have G3 := hid (idx_at HCK.out hqc HA.out)
        clear hqc
        go_wp2
        go_ret
        exact ⟨by rw [G3.out]; rfl, HK1.out⟩
    · obtain rfl : k = code.length := by omega
      have G3 := hid (idx_none (q := q) (l := code) (by have := HA.out; rwa [List.take_length] at this))
      go_wp2
      go_ret
      exact ⟨by rw [G3.out]; rfl, HK.out⟩

set_option maxRecDepth 20000 in
set_option maxHeartbeats 4000000 in
theorem has_plain (code : List Ins) (p : Option Addr) (cap : Nat) (w : World) (hl : code.length ≤ 65536) (hf : IP w w.heap.size p code) :
    Calls Try.prog 79 #[.slice p code.length cap, .func (.func 80) #[] #[]] w fun r w' => r = .returned (.bool (decide (0 ≤ idxI (fun x => !plainB x) code))) ∧ Keep (fun _ => False) w w' := by
  have HI := hid (idx_plain code p cap w hl hf)
  clear hl hf
  go_enter Try.func79, Try.ntmps79
  go_wp2_with fail
  refine HI.out.mono ?_
  rintro r w1 ⟨rfl, hk⟩
  have HK := hid hk
  clear hk
  go_wp2
  go_ret
  exact ⟨rfl, HK.out⟩
end Go.Proofs.Ytjebgidddfamlaa

namespace Go.Proofs.Ytjebgidddfamlaa
open Go.RowKit Go.Proofs.Heap Go.Proofs.Sch Go.Proofs.Wide

/-- A step of a writer: what it holds then, what is kept. -/
structure WrStep (w w' : World) (base q : Nat) (sv sv' : Value) (l' : List UInt8) : Prop where
  st : WrS w' base q sv' l'
  keep : Keep (WrF q sv) w w'
  own : ∀ g, sv'.ownBlock = some g → sv.ownBlock = some g ∨ w.heap.size ≤ g
theorem WrStep.trans {w w1 w2 : World} {base q : Nat} {sv s1 s2 : Value} {l1 l2 : List UInt8} (h : WrStep w w1 base q sv s1 l1) (k : WrStep w1 w2 base q s1 s2 l2) : WrStep w w2 base q sv s2 l2 :=
  ⟨k.st, h.keep.trans' k.keep (fun i hi hf => by
    rcases hf with rfl | hf
    · exact .inl rfl
    · rcases h.own i hf with h2 | h2
      · exact .inr h2
      · omega), fun _ hg => by
    rcases k.own _ hg with h2 | h2
    · exact h.own _ h2
    · exact .inr (Nat.le_trans h.keep.size h2)⟩
theorem WrStep.refl {w : World} {base q : Nat} {sv : Value} {l : List UInt8} (h : WrS w base q sv l) : WrStep w w base q sv sv l := ⟨h, Keep.refl _ _, fun _ hg => .inl hg⟩
theorem num_step (wd : Nat) (hwd : wd = 1 ∨ wd = 8) (m : Nat) (hm : m < 18446744073709551616) (base q : Nat) (sv : Value) (l : List UInt8) (w : World) (hll : l.length ≤ 1000000) (hW : WrS w base q sv l) :
    Calls Try.prog 82 #[.pointer (some ⟨q, 0, none⟩), .int .i64 (wd : Int), .int .u64 (m : Int)] w fun r w' => ∃ b sv' l', r = .returned (.bool b) ∧ WrStep w w' base q sv sv' l' ∧ l'.length ≤ l.length + 8 :=
  (num_put wd hwd m hm base q sv l w hll hW).mono fun _ _ ⟨b, sv', l', h1, h2, h3, h4, h5⟩ => ⟨b, sv', l', h1, ⟨h2, h3, h4⟩, h5⟩

set_option maxRecDepth 20000 in
set_option maxHeartbeats 8000000 in
theorem enc_ins (x : Ins) (hop : 1 ≤ x.op ∧ x.op ≤ 17) (ha : 0 ≤ x.a ∧ x.a < 8) (hb : 0 ≤ x.b ∧ x.b < 8) (hx : x.k.fit) (base q : Nat) (sv : Value) (l : List UInt8) (w : World) (hll : l.length ≤ 900000) (hW : WrS w base q sv l) :
    Calls Try.prog 83 #[.pointer (some ⟨q, 0, none⟩), InV x] w fun r w' => r = .returned (.tuple #[]) ∧ ∃ sv' l', WrStep w w' base q sv sv' l' ∧ l'.length ≤ l.length + 40 := by
  obtain ⟨op, a, b, ⟨kn, kh, kl⟩⟩ := x
  simp only at hop ha hb
  obtain ⟨on, rfl⟩ := Int.eq_ofNat_of_zero_le (a := op) (by omega)
  obtain ⟨an, rfl⟩ := Int.eq_ofNat_of_zero_le ha.1
  obtain ⟨bn, rfl⟩ := Int.eq_ofNat_of_zero_le hb.1
  have hfit := hx
  obtain ⟨w1, hw1, hb1, hs1, hk1⟩ := box1 w #[.int .i64 (on : Int), .int .i64 (an : Int), .int .i64 (bn : Int), .bool kn, .int .u64 (kh : Int), .int .u64 (kl : Int)] 40
  have hqlt := lt_of_heap hW.block
  have h1 : WrStep w w1 base q sv sv l := ⟨⟨hk1.get hW.block id, by rw [hw1]; exact hW.own.alloc _, hW.ne, hW.base⟩, hk1.mono (fun _ _ h => h.elim), fun g hg => .inl hg⟩
  have HS1 := hid h1
  have hsbF : ∀ (s : Value), (∀ g, s.ownBlock = some g → sv.ownBlock = some g ∨ w1.heap.size ≤ g) → ¬ WrF q s w.heap.size := fun s hs hf => by
    rcases hf with e | hf
    · omega
    · rcases hs _ hf with h | h
      · have := (hW.own.lt _ h).2; omega
      · omega
  have HC : Hid (∀ wy sy ly, WrStep w1 wy base q sv sy ly → wy.heap[w.heap.size]? = some (.cells #[.int .i64 (on : Int), .int .i64 (an : Int), .int .i64 (bn : Int), .bool kn, .int .u64 (kh : Int), .int .u64 (kl : Int)] 40 (0, 0))) := hid (fun wy sy ly h => h.keep.get hb1 (hsbF sv (fun g hg => .inl hg)))
  have HFT := hid hfit
  have HLL := hid hll
  have HOP := hid hop; have HA := hid ha; have HB := hid hb
  have HP1 := hid (fun (m : Nat) (hm : m < 18446744073709551616) (sv : Value) (l : List UInt8) (w : World) (hll : l.length ≤ 1000000) (hW : WrS w base q sv l) => num_step 1 (.inl rfl) m hm base q sv l w hll hW)
  have HP8 := hid (fun (m : Nat) (hm : m < 18446744073709551616) (sv : Value) (l : List UInt8) (w : World) (hll : l.length ≤ 1000000) (hW : WrS w base q sv l) => num_step 8 (.inr rfl) m hm base q sv l w hll hW)
  clear hs1 hk1 hb1 hW h1 hsbF hfit hx hqlt hll
  have hop2 := hop.1
  have hop3 := hop.2
  have ha2 : (an : Int) < 8 := ha.2
  have hb2 : (bn : Int) < 8 := hb.2
  have ha3 : an < 8 := by omega
  have hb3 : bn < 8 := by omega
  clear hop ha hb
  go_enter Try.func83, Try.ntmps83
  go_upto_region 1 with fail
  rw [← hw1]
  clear hw1
  generalize w.heap.size = sb at *
  have s0 : w1.cell? ⟨sb, 0, none⟩ = some (.int .i64 (on : Int)) := cell_of (HC.out w1 sv l (WrStep.refl HS1.out.st)) (by rfl)
  go_wp2_with fail
  refine (HP1.out on (by have := HOP.out; omega) sv l _ (by have := HLL.out; omega) HS1.out.st).mono ?_
  rintro r w2 ⟨b2, s2v, l2, rfl, ht2, hl2⟩
  have HT2 := hid ht2; have HL2 : Hid (l2.length ≤ l.length + 8) := hid hl2
  clear ht2 hl2 s0
  have s0 : w2.cell? ⟨sb, 0, none⟩ = some (.int .i64 (on : Int)) := cell_of (HC.out _ _ _ HT2.out) (by rfl)
  by_cases h1 : on = 1
  · subst h1
    cases kn
    · have s3 : w2.cell? ⟨sb, 3, none⟩ = some (.bool false) := cell_of (HC.out _ _ _ HT2.out) (by rfl)
      go_wp2_with fail
      clear s0 s3
      refine (HP1.out 0 (by omega) s2v l2 _ (by have := HLL.out; have := HL2.out; omega) HT2.out.st).mono ?_
      rintro r w3 ⟨b3, s3v, l3, rfl, ht3, hl3⟩
      have HT3 := hid (HT2.out.trans ht3); have HL3 : Hid (l3.length ≤ l.length + 16) := hid (by have := HL2.out; omega)
      clear ht3 hl3
      have s5 : w3.cell? ⟨sb, 5, none⟩ = some (.int .u64 (kl : Int)) := cell_of (HC.out _ _ _ HT3.out) (by rfl)
      go_wp2_with fail
      refine (HP8.out kl (by have := HFT.out.2; simp only at this; omega) s3v l3 _ (by have := HLL.out; have := HL3.out; omega) HT3.out.st).mono ?_
      rintro r w4 ⟨b4, s4v, l4, rfl, ht4, hl4⟩
      have HT4 := hid (HT3.out.trans ht4); have HL4 : Hid (l4.length ≤ l.length + 24) := hid (by have := HL3.out; omega)
      clear ht4 hl4 s5
      have s4 : w4.cell? ⟨sb, 4, none⟩ = some (.int .u64 (kh : Int)) := cell_of (HC.out _ _ _ HT4.out) (by rfl)
      go_wp2_with fail
      refine (HP8.out kh (by have := HFT.out.1; simp only at this; omega) s4v l4 _ (by have := HLL.out; have := HL4.out; omega) HT4.out.st).mono ?_
      rintro r w5 ⟨b5, s5v, l5, rfl, ht5, hl5⟩
      have HT5 := hid (HT4.out.trans ht5); have HL5 : Hid (l5.length ≤ l.length + 32) := hid (by have := HL4.out; omega)
      clear ht5 hl5 s4
      go_wp2
      go_end0
      exact ⟨rfl, s5v, l5, HS1.out.trans HT5.out, by have := HL5.out; omega⟩
    · have s3 : w2.cell? ⟨sb, 3, none⟩ = some (.bool true) := cell_of (HC.out _ _ _ HT2.out) (by rfl)
      go_wp2_with fail
      clear s0 s3
      refine (HP1.out 1 (by omega) s2v l2 _ (by have := HLL.out; have := HL2.out; omega) HT2.out.st).mono ?_
      rintro r w3 ⟨b3, s3v, l3, rfl, ht3, hl3⟩
      have HT3 := hid (HT2.out.trans ht3); have HL3 : Hid (l3.length ≤ l.length + 16) := hid (by have := HL2.out; omega)
      clear ht3 hl3
      have s5 : w3.cell? ⟨sb, 5, none⟩ = some (.int .u64 (kl : Int)) := cell_of (HC.out _ _ _ HT3.out) (by rfl)
      go_wp2_with fail
      refine (HP8.out kl (by have := HFT.out.2; simp only at this; omega) s3v l3 _ (by have := HLL.out; have := HL3.out; omega) HT3.out.st).mono ?_
      rintro r w4 ⟨b4, s4v, l4, rfl, ht4, hl4⟩
      have HT4 := hid (HT3.out.trans ht4); have HL4 : Hid (l4.length ≤ l.length + 24) := hid (by have := HL3.out; omega)
      clear ht4 hl4 s5
      have s4 : w4.cell? ⟨sb, 4, none⟩ = some (.int .u64 (kh : Int)) := cell_of (HC.out _ _ _ HT4.out) (by rfl)
      go_wp2_with fail
      refine (HP8.out kh (by have := HFT.out.1; simp only at this; omega) s4v l4 _ (by have := HLL.out; have := HL4.out; omega) HT4.out.st).mono ?_
      rintro r w5 ⟨b5, s5v, l5, rfl, ht5, hl5⟩
      have HT5 := hid (HT4.out.trans ht5); have HL5 : Hid (l5.length ≤ l.length + 32) := hid (by have := HL4.out; omega)
      clear ht5 hl5 s4
      go_wp2
      go_end0
      exact ⟨rfl, s5v, l5, HS1.out.trans HT5.out, by have := HL5.out; omega⟩
  have g1 : ((on : Int) == 1) = false := beq_eq_false_iff_ne.2 (by omega)
  have g1' : (on == 1) = false := beq_eq_false_iff_ne.2 h1
  by_cases h2 : on = 2
  · subst h2
    have s1 : w2.cell? ⟨sb, 1, none⟩ = some (.int .i64 (an : Int)) := cell_of (HC.out _ _ _ HT2.out) (by rfl)
    go_wp2_with fail
    refine (HP1.out an (by have := HA.out; omega) s2v l2 _ (by have := HLL.out; have := HL2.out; omega) HT2.out.st).mono ?_
    rintro r w3 ⟨b3, s3v, l3, rfl, ht3, hl3⟩
    have HT3 := hid (HT2.out.trans ht3); have HL3 : Hid (l3.length ≤ l.length + 16) := hid (by have := HL2.out; omega)
    clear ht3 hl3 s1
    have s2 : w3.cell? ⟨sb, 2, none⟩ = some (.int .i64 (bn : Int)) := cell_of (HC.out _ _ _ HT3.out) (by rfl)
    go_wp2_with fail
    refine (HP1.out bn (by have := HB.out; omega) s3v l3 _ (by have := HLL.out; have := HL3.out; omega) HT3.out.st).mono ?_
    rintro r w4 ⟨b4, s4v, l4, rfl, ht4, hl4⟩
    have HT4 := hid (HT3.out.trans ht4); have HL4 : Hid (l4.length ≤ l.length + 24) := hid (by have := HL3.out; omega)
    clear ht4 hl4 s2
    go_wp2
    go_end0
    exact ⟨rfl, s4v, l4, HS1.out.trans HT4.out, by have := HL4.out; omega⟩
  have g2 : ((on : Int) == 2) = false := beq_eq_false_iff_ne.2 (by omega)
  have g2' : (on == 2) = false := beq_eq_false_iff_ne.2 h2
  by_cases h3 : on = 3
  · subst h3
    have s1 : w2.cell? ⟨sb, 1, none⟩ = some (.int .i64 (an : Int)) := cell_of (HC.out _ _ _ HT2.out) (by rfl)
    go_wp2_with fail
    refine (HP1.out an (by have := HA.out; omega) s2v l2 _ (by have := HLL.out; have := HL2.out; omega) HT2.out.st).mono ?_
    rintro r w3 ⟨b3, s3v, l3, rfl, ht3, hl3⟩
    have HT3 := hid (HT2.out.trans ht3); have HL3 : Hid (l3.length ≤ l.length + 16) := hid (by have := HL2.out; omega)
    clear ht3 hl3 s1
    go_wp2
    go_end0
    exact ⟨rfl, s3v, l3, HS1.out.trans HT3.out, by have := HL3.out; omega⟩
  have g3 : ((on : Int) == 3) = false := beq_eq_false_iff_ne.2 (by omega)
  have g3' : (on == 3) = false := beq_eq_false_iff_ne.2 h3
  go_wp2
  go_end0
  exact ⟨rfl, s2v, l2, HS1.out.trans HT2.out, by have := HL2.out; omega⟩
end Go.Proofs.Ytjebgidddfamlaa

namespace Go.Proofs.Ytjebgidddfamlaa
open Go.RowKit Go.Proofs.Heap Go.Proofs.Sch Go.Proofs.Wide

theorem WrStep.alloc {w w1 : World} {base q : Nat} {sv s1 : Value} {l1 : List UInt8} (h : WrStep w w1 base q sv s1 l1) (o : Obj) : WrStep w (w1.alloc o) base q sv s1 l1 :=
  ⟨⟨((Keep.refl (fun _ => False) w1).alloc o).get h.st.block id, h.st.own.alloc o, h.st.ne, h.st.base⟩, h.keep.alloc o, h.own⟩
theorem insB_op {x : Ins} (h : insB x = true) : 1 ≤ x.op ∧ x.op ≤ 17 := by
  unfold insB at h
  simp at h
  exact ⟨h.1.1, h.1.2⟩
/-- The error of a formula that is to be written. -/
def encC (code : List Ins) : Nat := if exprC code = 0 then (if (∀ x ∈ code, plainB x = true) then 0 else 1) else exprC code

set_option maxRecDepth 20000 in
set_option maxHeartbeats 8000000 in
theorem expr_encode (code : List Ins) (p : Option Addr) (cap : Nat) (w : World) (hfit : ∀ x ∈ code, x.k.fit) (hf : IP w w.heap.size p code) :
    Calls Try.prog 76 #[.slice p code.length cap] w fun r w' => (∃ s, r = .returned (.tuple #[.string s, iV (encC code)])) ∧ Keep (fun _ => False) w w' := by
  have HX := hid hfit; have HF := hid hf
  clear hfit hf
  go_enter Try.func76, Try.ntmps76
  go_wp2_with fail
  refine (expr_check code p cap _ HX.out HF.out).mono ?_
  rintro r w1 ⟨rfl, hk1⟩
  have HK1 := hid hk1
  have HF1 := hid (IP.mono (IP.low HF.out (Low.keep0 hk1)) hk1.size)
  clear hk1
  by_cases hz : exprC code = 0
  rotate_left
  · have G : Hid (encC code = exprC code) := hid (by unfold encC; rw [if_neg hz])
    generalize exprC code = e at *
    have g1 : ((e : Int) != 0) = true := by simp only [bne, beq_eq_false_iff_ne.2 (show (e : Int) ≠ 0 by omega)]; rfl
    have g2 : (e != 0) = true := by simp only [bne, beq_eq_false_iff_ne.2 hz]; rfl
    go_wp2
    go_ret2
    exact ⟨⟨_, by rw [G.out]; rfl⟩, HK1.out⟩
  have HALL := hid (exprC_all hz)
  have HEC : Hid (encC code = if (∀ x ∈ code, plainB x = true) then 0 else 1) := hid (by unfold encC; rw [if_pos hz])
  rw [hz]
  clear hz
  have hcl : code.length ≤ 64 := HALL.out.2.1
  have hcl2 : (code.length : Int) ≤ 64 := by omega
  go_wp2_with fail
  refine (has_plain code p cap _ (by omega) HF1.out).mono ?_
  rintro r w2 ⟨rfl, hk2⟩
  have HK2 := hid (HK1.out.trans hk2)
  clear hk2
  by_cases hpl : ∀ x ∈ code, plainB x = true
  rotate_left
  · have G := hid (HEC.out.trans (if_neg hpl))
    have hi : 0 ≤ idxI (fun x => !plainB x) code := by
      rcases idx_cases (fun x => !plainB x) code with h | ⟨i, x, h, _⟩
      · refine absurd (fun x hx => ?_) hpl
        have := List.any_eq_false.1 (idx_any_no _ _ h) x hx
        simpa using this
      · omega
    have g1 : decide (0 ≤ idxI (fun x => !plainB x) code) = true := decide_eq_true hi
    clear hi hpl
    go_wp2
    go_ret2
    exact ⟨⟨_, by rw [G.out]; rfl⟩, HK2.out⟩
  have G := hid (HEC.out.trans (if_pos hpl))
  have hi : idxI (fun x => !plainB x) code = -1 := idx_none (fun x hx => by rw [hpl x hx]; rfl)
  rw [hi]
  clear hi hpl HEC
  have g1 : decide ((0 : Int) ≤ -1) = false := by decide
  obtain ⟨w3, hw3, hb3, hs3, hk3⟩ := box1 w2 #[.slice none 0 0] 126
  have HST : Hid (WrStep w3 w3 w.heap.size w2.heap.size (.slice none 0 0) (.slice none 0 0) []) := hid (WrStep.refl ⟨hb3, World.ownsRow_nil _ _ _ _, by simp [Value.ownBlock], HK2.out.size⟩)
  have HK3 := hid (HK2.out.trans hk3)
  have HKW : Hid (∀ wy sv l, WrStep w3 wy w.heap.size w2.heap.size (.slice none 0 0) sv l → Keep (fun _ => False) w wy) := hid (fun wy sv l h => HK3.out.trans' h.keep (fun i hi hf => by
    rcases hf with h1 | h1
    · have := HK2.out.size; omega
    · simp [Value.ownBlock] at h1))
  clear hb3 hs3 hk3
  go_upto_region 7 with fail
  rw [← hw3]
  clear hw3
  generalize w2.heap.size = q at *
  go_wp2_with fail
  refine (num_step 1 (.inl rfl) code.length (by omega) w.heap.size q _ _ _ (by simp) HST.out.st).mono ?_
  rintro r w4 ⟨b4, s4v, l4, rfl, ht4, hl4⟩
  have HT4 := hid (HST.out.trans ht4)
  have HL4 : Hid (l4.length ≤ 8) := hid (by simpa using hl4)
  clear ht4 hl4
  go_wp2_with fail
  go_loopw [7, 24] (fun _ i wr => ∃ (k : Nat) (sv : Value) (l : List UInt8), k ≤ code.length ∧ i = iV k ∧ WrStep w3 wr w.heap.size q (.slice none 0 0) sv l ∧ l.length ≤ 8 + 40 * k) (fun _ i _ => code.length + 1 - (intOf i).toNat)
  case atStart => exact ⟨0, s4v, l4, Nat.zero_le _, rfl, HT4.out, by have := HL4.out; omega⟩
  case round =>
    obtain ⟨k, sv, l, hk, rfl, hst, hll⟩ := hrel
    have HS := hid hst; have HLL := hid hll
    have HKR := hid (HKW.out _ _ _ hst)
    clear hst hll
    by_cases hlt : k < code.length
    · obtain ⟨x, hxk⟩ : ∃ x, code[k]? = some x := ⟨code[k], by simp [hlt]⟩
      have HIB := hid (HALL.out.2.2 x (List.mem_of_getElem? hxk))
      have HXF := hid (HX.out x (List.mem_of_getElem? hxk))
      obtain ⟨b, off, rfl, hb, c0, c1, c2, c3, c4, c5⟩ := IP.at (IP.low HF.out (Low.keep0 HKR.out)) hxk
      have hin : (0 : Int) ≤ (k : Int) ∧ (k : Int) < (code.length : Int) := ⟨by omega, by omega⟩
      clear hxk hb
      obtain ⟨op, xa, xb, ⟨kn, kh, kl⟩⟩ := x
      simp only at c0 c1 c2 c3 c4 c5
      obtain ⟨w5, hw5, hb5, hs5, hk5⟩ := box1 wr #[.int .i64 op, .int .i64 xa, .int .i64 xb, .bool kn, .int .u64 (kh : Int), .int .u64 (kl : Int)] 40
      have HS5 : Hid (WrStep w3 w5 w.heap.size q (.slice none 0 0) sv l) := hid (by rw [hw5]; exact HS.out.alloc _)
      clear hs5 hk5
      go_upto_region 11 with fail
      rw [← hw5]
      clear hw5 c0 c1 c2 c3 c4 c5
      generalize wr.heap.size = sb at *
      have s0 : w5.cell? ⟨sb, 0, none⟩ = some (.int .i64 op) := cell_of hb5 (by rfl)
      have s1 : w5.cell? ⟨sb, 1, none⟩ = some (.int .i64 xa) := cell_of hb5 (by rfl)
      have s2 : w5.cell? ⟨sb, 2, none⟩ = some (.int .i64 xb) := cell_of hb5 (by rfl)
      have s3 : w5.cell? ⟨sb, 3, none⟩ = some (.bool kn) := cell_of hb5 (by rfl)
      have s4 : w5.cell? ⟨sb, 4, none⟩ = some (.int .u64 (kh : Int)) := cell_of hb5 (by rfl)
      have s5 : w5.cell? ⟨sb, 5, none⟩ = some (.int .u64 (kl : Int)) := cell_of hb5 (by rfl)
      clear hb5
      go_wp2_with fail
      refine (enc_ins ⟨op, xa, xb, ⟨kn, kh, kl⟩⟩ (insB_op HIB.out) (insB_a HIB.out).1 (insB_a HIB.out).2.1 HXF.out w.heap.size q sv l _ (by have := HLL.out; omega) HS5.out.st).mono ?_
      rintro r w6 ⟨rfl, s6v, l6, ht6, hl6⟩
      have HT6 := hid (HS5.out.trans ht6)
      have HL6 : Hid (l6.length ≤ 8 + 40 * (k + 1)) := hid (by have := HLL.out; omega)
      clear ht6 hl6 s0 s1 s2 s3 s4 s5
      go_wp2
      go_roundw
      case rel => exact ⟨k + 1, s6v, l6, by omega, by go_num, HT6.out, HL6.out⟩
      case measure => simp [intOf]; omega
    · obtain rfl : k = code.length := by omega
      have g0 : decide ((code.length : Int) < (code.length : Int)) = false := decide_eq_false (by omega)
      go_wp2_with fail
      refine (wr_string w.heap.size q sv l _ HS.out.st).mono ?_
      rintro r w6 ⟨rfl, rfl⟩
      go_wp2
      go_ret2
      exact ⟨⟨_, by rw [G.out]; rfl⟩, HKR.out⟩
end Go.Proofs.Ytjebgidddfamlaa
