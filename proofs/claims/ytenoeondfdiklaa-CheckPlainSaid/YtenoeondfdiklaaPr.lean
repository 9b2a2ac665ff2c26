/- What is proved: how the plain program's rules lie in memory while it is made; no walk. -/
import Derived.Test.YtenoeondfdiklaaChk4
namespace Go.Proofs.Ytenoeondfdiklaa
open Go.RowKit Go.Proofs.Heap Go.Proofs.Sch Go.Proofs.Wide

/-- A rule each of whose formulas is one instruction. -/
structure PR where
  new : Int
  old : Int
  es : List Ins
def PR.rul (r : PR) : Rul := ⟨r.new, r.old, r.es.map (fun x => [x])⟩

/-- Below N what is of an instruction, or of a row of formulas, stays. -/
def Stay (N : Nat) (w w' : World) : Prop := ∀ g c t, g < N → w.heap[g]? = some (.cells c t (0, 0)) → (t = 64 ∨ t = 50) → w'.heap[g]? = some (.cells c t (0, 0))
theorem Stay.refl (N : Nat) (w : World) : Stay N w w := fun _ _ _ _ h _ => h
theorem Stay.trans {N : Nat} {a b c : World} (h : Stay N a b) (k : Stay N b c) : Stay N a c := fun g x t hg hx ht => k g x t hg (h g x t hg hx ht) ht
theorem Stay.keep {N : Nat} {w w' : World} (h : Keep (fun _ => False) w w') : Stay N w w' := fun _ _ _ _ hx _ => h.get hx id
theorem Stay.alloc {N : Nat} {a w : World} (h : Stay N a w) (o : Obj) : Stay N a (w.alloc o) := h.trans (Stay.keep ((Keep.refl _ w).alloc o))
theorem Stay.drew {N : Nat} {a w : World} (h : Stay N a w) : Stay N a w.drew := h
theorem Stay.set {N : Nat} {a w : World} (h : Stay N a w) {g0 : Nat} {c0 : Array Value} {t0 : TypeId} (h0 : w.heap[g0]? = some (.cells c0 t0 (0, 0))) (h1 : t0 ≠ 64) (h2 : t0 ≠ 50) (i : Nat) (u : Value) : Stay N a (w.setCell ⟨g0, i, none⟩ u) :=
  h.trans fun g c t _ hx ht => by
    rw [hsc_ne u (fun e => ?_)]
    · exact hx
    · subst e
      rw [hx] at h0
      injection h0 with h0
      injection h0 with _ h0
      subst h0
      rcases ht with e | e
      · exact h1 e
      · exact h2 e
theorem Stay.grown {N : Nat} {a w w' : World} {row : Option Nat} (h : Stay N a w) (hs : w.heap.size ≥ N) (hg : w.grownBy w' row) (hr : ∀ k, row = some k → N ≤ k ∨ ∃ c t, w.heap[k]? = some (.cells c t (0, 0)) ∧ t ≠ 64 ∧ t ≠ 50) : Stay N a w' :=
  h.trans fun g c t hgn hx ht => (hg.block g (by omega) (fun e => by
    rcases hr g e.symm with h1 | ⟨c0, t0, h0, h1, h2⟩
    · omega
    · rw [hx] at h0
      injection h0 with h0
      injection h0 with _ h0
      subst h0
      rcases ht with e | e
      · exact h1 e
      · exact h2 e)).trans hx

abbrev bV (b : Nat) : Value := .slice (some ⟨b, 0, none⟩) 1 1
/-- The row of formulas of one instruction each. -/
def Ex (w : World) (base : Nat) (es : List Ins) (v : Value) : Prop :=
  ∃ bs : List Nat, bs.length = es.length ∧ w.ownsRow base 50 1 v es.length (bs.map bV) ∧ ∀ (i : Nat) (x : Ins) (b : Nat), es[i]? = some x → bs[i]? = some b → w.heap[b]? = some (.cells (InC x) 64 (0, 0))
theorem Ex.nil (w : World) (base : Nat) : Ex w base [] (.slice none 0 0) := ⟨[], rfl, World.ownsRow_nil _ _ _ _, fun _ _ _ h => by simp at h⟩
theorem Ex.stay {N : Nat} {w w' : World} {base : Nat} {es : List Ins} {v : Value} (h : Ex w base es v) (hs : Stay N w w') (hn : w.heap.size ≤ N) : Ex w' base es v := by
  obtain ⟨bs, h1, h2, h3⟩ := h
  refine ⟨bs, h1, owns_keep h2 (fun g hg => ?_), fun i x b hx hb => ?_⟩
  · rcases owns_block h2 with ⟨rfl, _⟩ | ⟨g', cap, cur, rfl, _, hgg, _⟩
    · simp [Value.ownBlock] at hg
    · simp [Value.ownBlock] at hg
      subst hg
      rw [hgg]
      exact hs _ _ _ (Nat.lt_of_lt_of_le (lt_of_heap hgg) hn) hgg (.inr rfl)
  · have := h3 i x b hx hb
    exact hs _ _ _ (Nat.lt_of_lt_of_le (lt_of_heap this) hn) this (.inl rfl)
theorem Ex.val {w : World} {base : Nat} {es : List Ins} {v : Value} (h : Ex w base es v) : ∃ p c, v = .slice p es.length c ∧ es.length ≤ c := by
  obtain ⟨bs, h1, h2, h3⟩ := h
  rcases owns_block h2 with ⟨rfl, h0, _⟩ | ⟨g', cap, cur, rfl, _, _, hc, _⟩
  · exact ⟨none, 0, by rw [h0], by omega⟩
  · exact ⟨_, _, rfl, hc⟩
theorem Ex.low {w : World} {base b' : Nat} {es : List Ins} {v : Value} (h : Ex w base es v) (hb : b' ≤ base) : Ex w b' es v := by
  obtain ⟨bs, h1, h2, h3⟩ := h
  exact ⟨bs, h1, owns_mono h2 hb, h3⟩
theorem one_ip {w : World} {b : Nat} {x : Ins} (h : w.heap[b]? = some (.cells (InC x) 64 (0, 0))) : IP w w.heap.size (some ⟨b, 0, none⟩) [x] := by
  refine .inr ⟨b, 0, rfl, lt_of_heap h, fun i y hy => ?_⟩
  match i, hy with
  | 0, hy =>
    injection hy with hy
    subst hy
    exact ⟨cell_of h (by rfl), cell_of h (by rfl), cell_of h (by rfl), cell_of h (by rfl), cell_of h (by rfl), cell_of h (by rfl)⟩
  | _ + 1, hy => simp at hy
theorem Ex.ep {w : World} {base : Nat} {es : List Ins} {p : Option Addr} {c : Nat} (h : Ex w base es (.slice p es.length c)) : EP w w.heap.size p (es.map (fun x => [x])) := by
  obtain ⟨bs, h1, h2, h3⟩ := h
  rcases Nat.eq_zero_or_pos es.length with h0 | h0
  · exact .inl (by rw [List.eq_nil_of_length_eq_zero h0]; rfl)
  · obtain ⟨g, rfl⟩ := owns_some h2 h0
    refine .inr ⟨g, 0, rfl, (h2.lt g (by simp [Value.ownBlock])).2, fun i y hy => ?_⟩
    rw [List.getElem?_map] at hy
    cases hx : es[i]? with
    | none => rw [hx] at hy; cases hy
    | some x =>
      rw [hx] at hy
      injection hy with hy
      subst hy
      have hi := (List.getElem?_eq_some_iff.1 hx).1
      obtain ⟨b, hb⟩ : ∃ b, bs[i]? = some b := ⟨bs[i]'(by omega), by simp [show i < bs.length by omega]⟩
      refine ⟨some ⟨b, 0, none⟩, 1, ?_, Nat.le_refl _, one_ip (h3 i x b hx hb)⟩
      rw [Nat.zero_add, Nat.mul_one, owns_cell h2 hi, List.getElem?_map, hb]
      rfl

def rucl (r : PR) (v : Value) : List Value := [.int .i64 r.new, .int .i64 r.old, v]
/-- The cells of rules. -/
def rcells : List PR → List Value → List Value
  | r :: rs, v :: vs => rucl r v ++ rcells rs vs
  | _, _ => []
theorem rcells_len : ∀ (rs : List PR) (vs : List Value), vs.length = rs.length → (rcells rs vs).length = rs.length * 3
  | [], [], _ => rfl
  | r :: rs, v :: vs, h => by
    rw [rcells, List.length_append, rcells_len rs vs (by simpa using h), List.length_cons]
    simp [rucl]; omega
  | [], v :: vs, h => by simp at h
  | r :: rs, [], h => by simp at h
theorem rcells_snoc : ∀ (rs : List PR) (vs : List Value) (r : PR) (v : Value), vs.length = rs.length → rcells (rs ++ [r]) (vs ++ [v]) = rcells rs vs ++ rucl r v
  | [], [], r, v, _ => by simp [rcells]
  | a :: rs, b :: vs, r, v, h => by
    rw [List.cons_append, List.cons_append, rcells, rcells, rcells_snoc rs vs r v (by simpa using h), List.append_assoc]
  | [], v :: vs, _, _, h => by simp at h
  | r :: rs, [], _, _, h => by simp at h
theorem rcells_at : ∀ (rs : List PR) (vs : List Value) (i k : Nat) (r : PR) (v : Value), vs.length = rs.length → rs[i]? = some r → vs[i]? = some v → k < 3 → (rcells rs vs)[i * 3 + k]? = (rucl r v)[k]?
  | a :: rs, b :: vs, 0, k, r, v, _, hr, hv, hk => by
    simp at hr hv
    subst hr; subst hv
    rw [rcells, Nat.zero_mul, Nat.zero_add, List.getElem?_append_left (by simpa [rucl] using hk)]
  | a :: rs, b :: vs, i + 1, k, r, v, h, hr, hv, hk => by
    rw [rcells, List.getElem?_append_right (by simp [rucl]; omega)]
    have : (i + 1) * 3 + k - (rucl a b).length = i * 3 + k := by simp [rucl]; omega
    rw [this]
    exact rcells_at rs vs i k r v (by simpa using h) (by simpa using hr) (by simpa using hv) hk
  | [], _, i, k, r, v, _, hr, _, _ => by simp at hr
  | _ :: _, [], i, k, r, v, h, _, _, _ => by simp at h

/-- The row of rules. -/
def Ru (w : World) (base : Nat) (rs : List PR) (v : Value) : Prop :=
  ∃ vs : List Value, vs.length = rs.length ∧ w.ownsRow base 27 3 v rs.length (rcells rs vs) ∧ ∀ (i : Nat) (r : PR) (x : Value), rs[i]? = some r → vs[i]? = some x → Ex w base r.es x
theorem Ru.nil (w : World) (base : Nat) : Ru w base [] (.slice none 0 0) := ⟨[], rfl, World.ownsRow_nil _ _ _ _, fun _ _ _ h => by simp at h⟩
theorem Ru.up {w : World} {base : Nat} {rs : List PR} {p : Option Addr} {c : Nat} (h : Ru w base rs (.slice p rs.length c)) : UP w w.heap.size p (rs.map PR.rul) := by
  obtain ⟨vs, h1, h2, h3⟩ := h
  rcases Nat.eq_zero_or_pos rs.length with h0 | h0
  · exact .inl (by rw [List.eq_nil_of_length_eq_zero h0]; rfl)
  · obtain ⟨g, rfl⟩ := owns_some h2 h0
    refine .inr ⟨g, 0, rfl, (h2.lt g (by simp [Value.ownBlock])).2, fun i y hy => ?_⟩
    rw [List.getElem?_map] at hy
    cases hx : rs[i]? with
    | none => rw [hx] at hy; cases hy
    | some x =>
      rw [hx] at hy
      injection hy with hy
      subst hy
      have hi := (List.getElem?_eq_some_iff.1 hx).1
      obtain ⟨v, hv⟩ : ∃ v, vs[i]? = some v := ⟨vs[i]'(by omega), by simp [show i < vs.length by omega]⟩
      have hex := h3 i x v hx hv
      obtain ⟨q, z, rfl, hz⟩ := hex.val
      have key : ∀ k u, (rucl x (.slice q x.es.length z))[k]? = some u → w.cell? ⟨g, 0 + i * 3 + k, none⟩ = some u := fun k u hu => by
        have hk : k < 3 := by have := (List.getElem?_eq_some_iff.1 hu).1; simpa [rucl] using this
        have := h2.cells (g := g) rfl (i * 3 + k) u (by rw [rcells_at rs vs i k x _ h1 hx hv hk]; exact hu)
        have hadd : (⟨g, 0, none⟩ : Addr).add (i * 3 + k) = ⟨g, i * 3 + k, none⟩ := by unfold Addr.add; split <;> simp_all
        rw [hadd] at this
        rw [Nat.zero_add]
        exact this
      refine ⟨key 0 _ rfl, key 1 _ rfl, q, z, ?_, ?_, hex.ep⟩
      · have := key 2 _ rfl
        rw [show (x.rul).exprs.length = x.es.length from List.length_map ..]
        exact this
      · rw [show (x.rul).exprs.length = x.es.length from List.length_map ..]
        exact hz
theorem info_sl : (Try.prog.info? 50).map (fun i => (i.zero, i.size, i.bytes)) = some (some (.slice none 0 0), 1, 24) := by kernel_rfl
theorem info_rul : (Try.prog.info? 27).map (fun i => (i.zero, i.size, i.bytes)) = some (some (.agg #[.int .i64 0, .int .i64 0, .slice none 0 0]), 3, 40) := by kernel_rfl
end Go.Proofs.Ytenoeondfdiklaa

namespace Go.Proofs.Ytenoeondfdiklaa
open Go.RowKit Go.Proofs.Heap Go.Proofs.Sch Go.Proofs.Wide

def numI : Ins := ⟨1, 0, 0, ⟨false, 0, 0⟩⟩
/-- The one instruction of a field's plain formula. -/
def plainI (old : Cmp) (f : Fld) : Ins :=
  if idxI (fun g : Fld => decide (g.name = f.name)) old.fs < 0 then numI
  else match old.fs[(idxI (fun g : Fld => decide (g.name = f.name)) old.fs).toNat]? with
    | some g => if f.count ≤ g.count ∧ decide (g.kind = 10) = decide (f.kind = 10) then ⟨3, idxI (fun g : Fld => decide (g.name = f.name)) old.fs, 0, ⟨false, 0, 0⟩⟩ else numI
    | none => numI

set_option maxRecDepth 20000 in
set_option maxHeartbeats 8000000 in
theorem chk_plain (old : Cmp) (f : Fld) (p : Option Addr) (cap : Nat) (w : World) (hl : old.fs.length ≤ 4398046511104) (hf : FP w w.heap.size p old.fs) :
    Calls Try.prog 23 #[.agg #[.int .i64 old.id, .string old.name, .slice p old.fs.length cap], .agg #[.string f.name, .int .i64 f.kind, .int .i64 f.count]] w
      fun r w' => ∃ b, r = .returned (bV b) ∧ w'.heap[b]? = some (.cells (InC (plainI old f)) 64 (0, 0)) ∧ w.heap.size ≤ b ∧ Keep (fun _ => False) w w' := by
  have HPI : Hid (plainI old f = if idxI (fun g : Fld => decide (g.name = f.name)) old.fs < 0 then numI
    else match old.fs[(idxI (fun g : Fld => decide (g.name = f.name)) old.fs).toNat]? with
    | some g => if f.count ≤ g.count ∧ decide (g.kind = 10) = decide (f.kind = 10) then ⟨3, idxI (fun g : Fld => decide (g.name = f.name)) old.fs, 0, ⟨false, 0, 0⟩⟩ else numI
    | none => numI) := hid rfl
  obtain ⟨oi, on, fs⟩ := old
  obtain ⟨fn, fk, fc⟩ := f
  simp only at hl hf HPI
  obtain ⟨w0, hw0, hb1, hb2, hs0, hk0⟩ := box2 w #[.int .i64 oi, .string on, .slice p fs.length cap] #[.string fn, .int .i64 fk, .int .i64 fc] 24 49
  have HK0 := hid hk0
  have HD : Hid (∀ wy, Keep (fun _ => False) w0 wy → FP wy wy.heap.size p fs) := hid (fun wy hk => FP.mono (FP.low hf (Low.keep0 (hk0.trans hk))) (hk0.trans hk).size)
  have HL := hid hl
  clear hf hs0 hk0
  go_enter Try.func23, Try.ntmps23
  go_upto_region 1 with fail
  rw [← hw0]
  clear hw0
  generalize hsb : w.heap.size = sb at *
  have HW : Hid (∀ wy, Keep (fun _ => False) w0 wy → (wy.cell? ⟨sb, 0, none⟩ = some (.int .i64 oi) ∧ wy.cell? ⟨sb, 1, none⟩ = some (.string on) ∧ wy.cell? ⟨sb, 2, none⟩ = some (.slice p fs.length cap)) ∧ (wy.cell? ⟨sb + 1, 0, none⟩ = some (.string fn) ∧ wy.cell? ⟨sb + 1, 1, none⟩ = some (.int .i64 fk) ∧ wy.cell? ⟨sb + 1, 2, none⟩ = some (.int .i64 fc))) := hid (fun wy hk =>
    ⟨⟨cell_of (hk.get hb1 id) (by rfl), cell_of (hk.get hb1 id) (by rfl), cell_of (hk.get hb1 id) (by rfl)⟩, cell_of (hk.get hb2 id) (by rfl), cell_of (hk.get hb2 id) (by rfl), cell_of (hk.get hb2 id) (by rfl)⟩)
  have HSB : Hid (w.heap.size = sb) := hid hsb
  clear hb1 hb2 hsb
  obtain ⟨⟨s0, s1, s2⟩, s3, s4, s5⟩ := HW.out _ (Keep.refl _ _)
  go_wp2_with fail
  refine (field_named ⟨oi, on, fs⟩ fn p cap _ HL.out (HD.out _ (Keep.refl _ _))).mono ?_
  rintro r w1 ⟨hr, hk1⟩
  have HK1 := hid hk1
  clear hk1 s0 s1 s2 s3 s4 s5
  rcases hr with ⟨hi, rfl⟩ | ⟨k, hi, hlt, rfl⟩
  · have G : Hid (plainI ⟨oi, on, fs⟩ ⟨fn, fk, fc⟩ = numI) := hid (by rw [HPI.out, hi]; rfl)
    have HKA := hid ((HK0.out.trans HK1.out).alloc (.cells (InC numI) 64))
    have HBA := hid (heap_alloc_new w1 (.cells (InC numI) 64))
    have HSZ := hid (HK0.out.trans HK1.out).size
    clear hi HPI
    go_wp2
    go_ret
    exact ⟨w1.heap.size, rfl, by rw [G.out]; exact HBA.out, by have h1 := HSZ.out; have h2 := HSB.out; omega, HKA.out⟩
  have HP2 : Hid (plainI ⟨oi, on, fs⟩ ⟨fn, fk, fc⟩ = match fs[k]? with
    | some g => if fc ≤ g.count ∧ decide (g.kind = 10) = decide (fk = 10) then ⟨3, (k : Int), 0, ⟨false, 0, 0⟩⟩ else numI
    | none => numI) := hid (by rw [HPI.out, hi, if_neg (by omega), Int.toNat_natCast])
  clear hi HPI
  have hlt' : k < fs.length := hlt
  clear hlt
  obtain ⟨g, hg⟩ : ∃ g, fs[k]? = some g := ⟨fs[k], by simp [hlt']⟩
  obtain ⟨b, off, rfl, hb, c0, c1, c2⟩ := FP.at (HD.out _ HK1.out) hg
  rw [hg] at HP2
  obtain ⟨gn, gk, gc⟩ := g
  simp only at c0 c1 c2 HP2
  have hin : (0 : Int) ≤ (k : Int) ∧ (k : Int) < (fs.length : Int) := ⟨by omega, by omega⟩
  obtain ⟨w2, hw2, hb2, hs2, hk2⟩ := box1 w1 #[.string gn, .int .i64 gk, .int .i64 gc] 49
  have HK2 := hid (HK1.out.trans hk2)
  obtain ⟨⟨s0, s1, s2⟩, s3, s4, s5⟩ := HW.out _ HK1.out
  clear hg hb hs2 hk2
  go_upto_region 4 with fail
  rw [← hw2]
  clear hw2 c0 c1 c2 s0 s1 s2 s3 s4 s5
  generalize w1.heap.size = gb at *
  obtain ⟨⟨s0, s1, s2⟩, s3, s4, s5⟩ := HW.out _ HK2.out
  have y1 : w2.cell? ⟨gb, 1, none⟩ = some (.int .i64 gk) := cell_of hb2 (by rfl)
  have y2 : w2.cell? ⟨gb, 2, none⟩ = some (.int .i64 gc) := cell_of hb2 (by rfl)
  have HKA := hid ((HK0.out.trans HK2.out).alloc (.cells (InC numI) 64))
  have HBA := hid (heap_alloc_new w2 (.cells (InC numI) 64))
  have HKB := hid ((HK0.out.trans HK2.out).alloc (.cells (InC ⟨3, (k : Int), 0, ⟨false, 0, 0⟩⟩) 64))
  have HBB := hid (heap_alloc_new w2 (.cells (InC ⟨3, (k : Int), 0, ⟨false, 0, 0⟩⟩) 64))
  have HSZ := hid (HK0.out.trans HK2.out).size
  clear hb2
  by_cases h1 : fc ≤ gc
  rotate_left
  · have g1 : decide (fc ≤ gc) = false := decide_eq_false h1
    have G := hid (HP2.out.trans (if_neg (fun h => h1 h.1)))
    clear HP2
    go_wp2
    go_ret
    exact ⟨w2.heap.size, rfl, by rw [G.out]; exact HBA.out, by have h1 := HSZ.out; have h2 := HSB.out; omega, HKA.out⟩
  have g1 : decide (fc ≤ gc) = true := decide_eq_true h1
  by_cases h2 : gk = 10
  · have g2 : (gk == 10) = true := beq_iff_eq.2 h2
    by_cases h3 : fk = 10
    · have g3 : (fk == 10) = true := beq_iff_eq.2 h3
      have G := hid (HP2.out.trans (if_pos ⟨h1, by rw [decide_eq_true h2, decide_eq_true h3]⟩))
      clear HP2 h2 h3
      go_wp2
      go_ret
      exact ⟨w2.heap.size, rfl, by rw [G.out]; exact HBB.out, by have h1 := HSZ.out; have h2 := HSB.out; omega, HKB.out⟩
    · have g3 : (fk == 10) = false := beq_eq_false_iff_ne.2 h3
      have G := hid (HP2.out.trans (if_neg (fun h => by have := h.2; rw [decide_eq_true h2, decide_eq_false h3] at this; cases this)))
      clear HP2 h2 h3
      go_wp2
      go_ret
      exact ⟨w2.heap.size, rfl, by rw [G.out]; exact HBA.out, by have h1 := HSZ.out; have h2 := HSB.out; omega, HKA.out⟩
  · have g2 : (gk == 10) = false := beq_eq_false_iff_ne.2 h2
    by_cases h3 : fk = 10
    · have g3 : (fk == 10) = true := beq_iff_eq.2 h3
      have G := hid (HP2.out.trans (if_neg (fun h => by have := h.2; rw [decide_eq_false h2, decide_eq_true h3] at this; cases this)))
      clear HP2 h2 h3
      go_wp2
      go_ret
      exact ⟨w2.heap.size, rfl, by rw [G.out]; exact HBA.out, by have h1 := HSZ.out; have h2 := HSB.out; omega, HKA.out⟩
    · have g3 : (fk == 10) = false := beq_eq_false_iff_ne.2 h3
      have G := hid (HP2.out.trans (if_pos ⟨h1, by rw [decide_eq_false h2, decide_eq_false h3]⟩))
      clear HP2 h2 h3
      go_wp2
      go_ret
      exact ⟨w2.heap.size, rfl, by rw [G.out]; exact HBB.out, by have h1 := HSZ.out; have h2 := HSB.out; omega, HKB.out⟩
end Go.Proofs.Ytenoeondfdiklaa

namespace Go.Proofs.Ytenoeondfdiklaa
open Go.RowKit Go.Proofs.Heap Go.Proofs.Sch Go.Proofs.Wide

theorem box4 (w : World) (c1 c2 c3 c4 : Array Value) (t1 t2 t3 t4 : TypeId) : ∃ w4, w4 = (((w.alloc (.cells c1 t1)).alloc (.cells c2 t2)).alloc (.cells c3 t3)).alloc (.cells c4 t4) ∧ w4.heap[w.heap.size]? = some (.cells c1 t1 (0, 0)) ∧ w4.heap[w.heap.size + 1]? = some (.cells c2 t2 (0, 0)) ∧ w4.heap[w.heap.size + 1 + 1]? = some (.cells c3 t3 (0, 0)) ∧ w4.heap[w.heap.size + 1 + 1 + 1]? = some (.cells c4 t4 (0, 0)) ∧ w4.heap.size = w.heap.size + 4 ∧ Keep (fun _ => False) w w4 := by
  obtain ⟨w3, h1, h2, h3, h4, h5, h6⟩ := box3 w c1 c2 c3 t1 t2 t3
  obtain ⟨w4, k1, k2, k3, k4⟩ := box1 w3 c4 t4
  subst h1
  exact ⟨w4, k1, k4.get h2 id, k4.get h3 id, k4.get h4 id, by rw [← show _ = w.heap.size + 1 + 1 + 1 from h5]; exact k2, by omega, h6.trans k4⟩

theorem own_type {w : World} {base : Nat} {e : TypeId} {size : Nat} {v : Value} {n : Nat} {xs : List Value} (h : w.ownsRow base e size v n xs) {g : Nat} (hg : v.ownBlock = some g) : ∃ c, w.heap[g]? = some (.cells c e (0, 0)) := by
  rcases owns_block h with ⟨rfl, _⟩ | ⟨g', cap, cur, rfl, _, hgg, _⟩
  · simp [Value.ownBlock] at hg
  · simp [Value.ownBlock] at hg
    subst hg
    exact ⟨cur, hgg⟩
theorem ex_push {w w' : World} {base : Nat} {es : List Ins} {bs : List Nat} {v v' : Value} {x : Ins} {b : Nat} (h1 : bs.length = es.length) (h2 : w.ownsRow base 50 1 v es.length (bs.map bV))
    (h3 : ∀ (i : Nat) (x : Ins) (b : Nat), es[i]? = some x → bs[i]? = some b → w.heap[b]? = some (.cells (InC x) 64 (0, 0))) (hb : w.heap[b]? = some (.cells (InC x) 64 (0, 0)))
    (hg : w.grownBy w' v.ownBlock) (ho : w'.ownsRow base 50 1 v' (es.length + 1) (bs.map bV ++ [bV b])) : Ex w' base (es ++ [x]) v' := by
  have key : ∀ (b : Nat) (x : Ins), w.heap[b]? = some (.cells (InC x) 64 (0, 0)) → w'.heap[b]? = some (.cells (InC x) 64 (0, 0)) := fun b x h =>
    (hg.block b (lt_of_heap h) (fun e => by
      obtain ⟨c, hc⟩ := own_type h2 e.symm
      rw [h] at hc
      injection hc with hc
      injection hc with _ hc
      revert hc
      decide)).trans h
  refine ⟨bs ++ [b], by simp [h1], by simpa using ho, fun i y d hy hd => ?_⟩
  by_cases hi : i < es.length
  · rw [List.getElem?_append_left hi] at hy
    rw [List.getElem?_append_left (by omega)] at hd
    exact key _ _ (h3 i y d hy hd)
  · rw [List.getElem?_append_right (by omega)] at hy
    rw [List.getElem?_append_right (by omega)] at hd
    have e0 : i - es.length = 0 := by have := (List.getElem?_eq_some_iff.1 hy).1; simpa using this
    rw [e0] at hy
    rw [h1, e0] at hd
    simp at hy hd
    subst hy; subst hd
    exact key _ _ hb
theorem ex_push' {w w' : World} {base n : Nat} {es : List Ins} {bs : List Nat} {v v' : Value} {x : Ins} {b : Nat} (hn : es.length = n) (h1 : bs.length = es.length) (h2 : w.ownsRow base 50 1 v n (bs.map bV))
    (h3 : ∀ (i : Nat) (x : Ins) (b : Nat), es[i]? = some x → bs[i]? = some b → w.heap[b]? = some (.cells (InC x) 64 (0, 0))) (hb : w.heap[b]? = some (.cells (InC x) 64 (0, 0)))
    (hg : w.grownBy w' v.ownBlock) (ho : w'.ownsRow base 50 1 v' (n + 1) (bs.map bV ++ [bV b])) : Ex w' base (es ++ [x]) v' := by
  subst hn
  exact ex_push h1 h2 h3 hb hg ho
theorem ru_push {w w' : World} {base : Nat} {rs : List PR} {vs : List Value} {v v' xv : Value} {r : PR} (h1 : vs.length = rs.length) (h2 : w.ownsRow base 27 3 v rs.length (rcells rs vs))
    (h3 : ∀ (i : Nat) (r : PR) (x : Value), rs[i]? = some r → vs[i]? = some x → Ex w base r.es x) (hr : Ex w base r.es xv)
    (hg : w.grownBy w' v.ownBlock) (ho : w'.ownsRow base 27 3 v' (rs.length + 1) (rcells rs vs ++ rucl r xv)) : Ru w' base (rs ++ [r]) v' := by
  have hst : Stay w.heap.size w w' := Stay.grown (Stay.refl _ _) (Nat.le_refl _) hg (fun k hk => by
    obtain ⟨c, hc⟩ := own_type h2 hk
    exact .inr ⟨c, _, hc, by decide, by decide⟩)
  refine ⟨vs ++ [xv], by simp [h1], by rw [rcells_snoc _ _ _ _ h1, List.length_append]; exact ho, fun i y d hy hd => ?_⟩
  by_cases hi : i < rs.length
  · rw [List.getElem?_append_left hi] at hy
    rw [List.getElem?_append_left (by omega)] at hd
    exact (h3 i y d hy hd).stay hst (Nat.le_refl _)
  · rw [List.getElem?_append_right (by omega)] at hy
    rw [List.getElem?_append_right (by omega)] at hd
    have e0 : i - rs.length = 0 := by have := (List.getElem?_eq_some_iff.1 hy).1; simpa using this
    rw [e0] at hy
    rw [h1, e0] at hd
    simp at hy hd
    subst hy; subst hd
    exact hr.stay hst (Nat.le_refl _)
theorem ru_push' {w w' : World} {base n : Nat} {rs : List PR} {vs : List Value} {v v' xv : Value} {r : PR} (hn : rs.length = n) (h1 : vs.length = rs.length) (h2 : w.ownsRow base 27 3 v n (rcells rs vs))
    (h3 : ∀ (i : Nat) (r : PR) (x : Value), rs[i]? = some r → vs[i]? = some x → Ex w base r.es x) (hr : Ex w base r.es xv)
    (hg : w.grownBy w' v.ownBlock) (ho : w'.ownsRow base 27 3 v' (n + 1) (rcells rs vs ++ rucl r xv)) : Ru w' base (rs ++ [r]) v' := by
  subst hn
  exact ru_push h1 h2 h3 hr hg ho
theorem Ex.keep0 {w w' : World} {base : Nat} {es : List Ins} {v : Value} (h : Ex w base es v) (hk : Keep (fun _ => False) w w') : Ex w' base es v := h.stay (Stay.keep hk) (Nat.le_refl _)
theorem Ex.set {w : World} {base : Nat} {es : List Ins} {v : Value} (h : Ex w base es v) {g0 : Nat} {c0 : Array Value} {t0 : TypeId} (h0 : w.heap[g0]? = some (.cells c0 t0 (0, 0))) (h1 : t0 ≠ 64) (h2 : t0 ≠ 50) (i : Nat) (u : Value) : Ex (w.setCell ⟨g0, i, none⟩ u) base es v :=
  h.stay ((Stay.refl w.heap.size w).set h0 h1 h2 i u) (Nat.le_refl _)
theorem Ru.set {w : World} {base : Nat} {rs : List PR} {v : Value} (h : Ru w base rs v) {g0 : Nat} {c0 : Array Value} {t0 : TypeId} (h0 : w.heap[g0]? = some (.cells c0 t0 (0, 0))) (h1 : t0 ≠ 64) (h2 : t0 ≠ 50) (h3 : t0 ≠ 27) (i : Nat) (u : Value) : Ru (w.setCell ⟨g0, i, none⟩ u) base rs v := by
  obtain ⟨vs, k1, k2, k3⟩ := h
  refine ⟨vs, k1, owns_keep k2 (fun g hg => hsc_ne _ (fun e => ?_)), fun i r x hr hx => (k3 i r x hr hx).set h0 h1 h2 _ _⟩
  subst e
  obtain ⟨c, hc⟩ := own_type k2 hg
  rw [h0] at hc
  injection hc with hc
  injection hc with _ hc
  exact h3 hc
theorem Ru.keep0 {w w' : World} {base : Nat} {rs : List PR} {v : Value} (h : Ru w base rs v) (hk : Keep (fun _ => False) w w') : Ru w' base rs v := by
  obtain ⟨vs, k1, k2, k3⟩ := h
  exact ⟨vs, k1, owns_keep k2 (fun g hg => hk.block g (k2.lt g hg).2 id), fun i r x hr hx => (k3 i r x hr hx).keep0 hk⟩
/-- The plain rule of a component. -/
def plainR (ca : List Cmp) (c : Cmp) : PR := if ca.any (fun d => decide (d.id = c.id)) = true then ⟨c.id, c.id, c.fs.map (plainI (foundC ca c.id))⟩ else ⟨c.id, 0, []⟩
end Go.Proofs.Ytenoeondfdiklaa
