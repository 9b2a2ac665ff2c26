/- What is proved: the elements of a row of fields in plain terms, and how the reference's two rows grow in memory. -/
import Derived.Test.YtkgkcnmnfhehfaaLay2
namespace Go.Proofs.Ytkgkcnmnfhehfaa
open Go.RowKit Go.Proofs.Heap Go.Proofs.Sch

/-- An element's cells. -/
def ecl (e : Int × Nat) : List Value := [.int .i64 e.1, iV e.2]
/-- The elements of a field that begins at a. -/
def eAdd (k : Int) (a sz n : Nat) : List (Int × Nat) := (List.range n).map (fun j => (k, a + sz * j))
def eStep (st : Nat × List (Int × Nat)) (f : Fld) : Nat × List (Int × Nat) := (upN st.1 (szN f.kind) + szN f.kind * f.count.toNat, st.2 ++ eAdd f.kind (upN st.1 (szN f.kind)) (szN f.kind) f.count.toNat)
/-- All elements of fields. -/
def eRun (fs : List Fld) : List (Int × Nat) := (fs.foldl eStep (0, [])).2

theorem eAdd_zero (k : Int) (a sz : Nat) : eAdd k a sz 0 = [] := rfl
theorem eAdd_next (k : Int) (a sz n : Nat) : eAdd k a sz (n + 1) = eAdd k a sz n ++ [(k, a + sz * n)] := by
  unfold eAdd; rw [List.range_succ, List.map_append]; rfl
theorem eAdd_len (k : Int) (a sz n : Nat) : (eAdd k a sz n).length = n := by simp [eAdd]
theorem eFold_at : ∀ (fs : List Fld) (a g : Nat) (es : List (Int × Nat)) (ss : List Nat), (fs.foldl eStep (a, es)).1 = (fs.foldl pStep (a, g, ss)).1
  | [], _, _, _, _ => rfl
  | f :: r, a, g, es, ss => by
    rw [List.foldl_cons, List.foldl_cons]
    exact eFold_at r _ _ _ _
theorem eRun_next {fs : List Fld} {k : Nat} {f : Fld} (h : fs[k]? = some f) : eRun (fs.take (k + 1)) = eRun (fs.take k) ++ eAdd f.kind (upN (pRun (fs.take k)).1 (szN f.kind)) (szN f.kind) f.count.toNat := by
  unfold eRun pRun
  rw [take_next h, List.foldl_append, List.foldl_cons, List.foldl_nil]
  unfold eStep
  rw [← eFold_at (fs.take k) 0 1 [] []]
  rfl
theorem eRun_len : ∀ (fs : List Fld), (eRun fs).length = sumN fs := by
  have key : ∀ (fs : List Fld) (st : Nat × List (Int × Nat)), (fs.foldl eStep st).2.length = st.2.length + sumN fs := by
    intro fs
    induction fs with
    | nil => intro st; simp [sumN]
    | cons f r ih =>
      intro st
      rw [List.foldl_cons, ih]
      simp only [eStep, List.length_append, eAdd_len, sumN]
      omega
  intro fs
  have := key fs (0, [])
  simpa [eRun] using this

/-- The multiple that is met first. -/
theorem upN_meet {a s x : Nat} (hs : 1 ≤ s) (h1 : a ≤ x) (h2 : x ≤ upN a s) (h3 : x % s = 0) : x = upN a s := by
  have hd := Nat.div_add_mod (a + s - 1) s
  have hm := Nat.mod_lt (a + s - 1) (show 0 < s by omega)
  have hx := Nat.div_add_mod x s
  have e : upN a s = s * ((a + s - 1) / s) := by unfold upN; rw [Nat.mul_comm]
  rw [e] at h2 ⊢
  rw [h3] at hx
  generalize (a + s - 1) / s = q at *
  generalize x / s = t at *
  have h4 : s * t < s * q + s → t < q + 1 := fun h => Nat.lt_of_mul_lt_mul_left (a := s) (by rw [Nat.mul_add]; omega)
  have h5 : s * q < s * t + s → q < t + 1 := fun h => Nat.lt_of_mul_lt_mul_left (a := s) (by rw [Nat.mul_add]; omega)
  have : t = q := by
    have h6 := h4 (by omega)
    have h7 := h5 (by omega)
    omega
  subst this
  omega
theorem upN_dvd (a s : Nat) : upN a s % s = 0 := by unfold upN; exact Nat.mul_mod_left ..
theorem upN_ge {a s : Nat} (hs : 1 ≤ s) : a ≤ upN a s := by
  have hd := Nat.div_add_mod (a + s - 1) s
  have hm := Nat.mod_lt (a + s - 1) (show 0 < s by omega)
  unfold upN
  rw [Nat.mul_comm]
  omega

/-- The reference's two rows under way: the elements, where fields begin. -/
structure LY (w : World) (v6 v7 : Value) (es : List (Int × Nat)) (ss : List Nat) (y : World) : Prop where
  keep : Keep (fun _ => False) w y
  o6 : y.ownsRow w.heap.size 66 2 v6 es.length (es.flatMap ecl)
  o7 : y.ownsRow w.heap.size 3 1 v7 ss.length (ss.map iV)
  dis : ∀ g, v6.ownBlock = some g → v7.ownBlock = some g → False
/-- A field's box beside them. -/
structure LB (v6 v7 : Value) (bx : Nat) (f : Fld) (y : World) : Prop where
  box : y.heap[bx]? = some (.cells #[.string f.name, .int .i64 f.kind, .int .i64 f.count] 41 (0, 0))
  n6 : v6.ownBlock ≠ some bx
  n7 : v7.ownBlock ≠ some bx

section
variable {w y y' : World} {v6 v7 v' : Value} {es : List (Int × Nat)} {ss : List Nat} {bx : Nat} {f : Fld}
theorem LY.keep0 (h : LY w v6 v7 es ss y) (hk : Keep (fun _ => False) y y') : LY w v6 v7 es ss y' :=
  ⟨h.keep.trans hk, owns_keep h.o6 (fun q hq => hk.block q (h.o6.lt q hq).2 id), owns_keep h.o7 (fun q hq => hk.block q (h.o7.lt q hq).2 id), h.dis⟩
theorem LB.keep0 (h : LB v6 v7 bx f y) (hk : Keep (fun _ => False) y y') : LB v6 v7 bx f y' := ⟨hk.get h.box id, h.n6, h.n7⟩
theorem LY.newBox (h : LY w v6 v7 es ss y) (f : Fld) : LB v6 v7 y.heap.size f (y.alloc (.cells #[.string f.name, .int .i64 f.kind, .int .i64 f.count] 41)) :=
  ⟨heap_alloc_new y _, fun e => by have := (h.o6.lt _ e).2; omega, fun e => by have := (h.o7.lt _ e).2; omega⟩
theorem LY.app6 (h : LY w v6 v7 es ss y) (hb : LB v6 v7 bx f y) {e : Int × Nat} (hown : y'.ownsRow w.heap.size 66 2 v' (es.length + 1) (es.flatMap ecl ++ ecl e)) (hg : y.grownBy y' v6.ownBlock) (ha : v'.ownBlock = v6.ownBlock ∨ v'.ownBlock = some y.heap.size) :
    LY w v' v7 (es ++ [e]) ss y' ∧ LB v' v7 bx f y' := by
  have hk : Keep (fun q => v6.ownBlock = some q) y y' := (Keep.refl _ y).grown hg (fun k hk => .inr hk)
  refine ⟨⟨h.keep.trans' hk (fun i hi e => by have := (h.o6.lt _ e).1; omega), by simpa using hown, owns_keep h.o7 (fun q hq => hk.block q (h.o7.lt q hq).2 (fun e => h.dis q e hq)), fun g h1 h2 => ?_⟩, hk.get hb.box hb.n6, fun e => ?_, hb.n7⟩
  · rcases ha with ha | ha
    · exact h.dis g (ha ▸ h1) h2
    · rw [ha] at h1
      injection h1 with h1
      have := (h.o7.lt g h2).2
      omega
  · rcases ha with ha | ha
    · exact hb.n6 (ha ▸ e)
    · rw [ha] at e
      injection e with e
      have := lt_of_heap hb.box
      omega
theorem LY.app7 (h : LY w v6 v7 es ss y) (hb : LB v6 v7 bx f y) {a : Nat} (hown : y'.ownsRow w.heap.size 3 1 v' (ss.length + 1) (ss.map iV ++ [iV a])) (hg : y.grownBy y' v7.ownBlock) (ha : v'.ownBlock = v7.ownBlock ∨ v'.ownBlock = some y.heap.size) :
    LY w v6 v' es (ss ++ [a]) y' ∧ LB v6 v' bx f y' := by
  have hk : Keep (fun q => v7.ownBlock = some q) y y' := (Keep.refl _ y).grown hg (fun k hk => .inr hk)
  refine ⟨⟨h.keep.trans' hk (fun i hi e => by have := (h.o7.lt _ e).1; omega), owns_keep h.o6 (fun q hq => hk.block q (h.o6.lt q hq).2 (fun e => h.dis q hq e)), by simpa using hown, fun g h1 h2 => ?_⟩, hk.get hb.box hb.n7, hb.n6, fun e => ?_⟩
  · rcases ha with ha | ha
    · exact h.dis g h1 (ha ▸ h2)
    · rw [ha] at h2
      injection h2 with h2
      have := (h.o6.lt g h1).2
      omega
  · rcases ha with ha | ha
    · exact hb.n7 (ha ▸ e)
    · rw [ha] at e
      injection e with e
      have := lt_of_heap hb.box
      omega
/-- A block more for what is appended. -/
theorem Keep.grown_alloc {w y y' : World} {o : Obj} {row : Option Nat} (hg : (y.alloc o).grownBy y' row) (hr : ∀ k, row = some k → w.heap.size ≤ k) (hk : Keep (fun _ => False) w y) : Keep (fun _ => False) w y' :=
  (hk.alloc o).grown hg (fun k h => .inl (hr k h))
end
theorem info_elem : (Try.prog.info? 66).map (fun i => (i.zero, i.size, i.bytes)) = some (some (.agg #[.int .i64 0, .int .i64 0]), 2, 16) := by kernel_rfl
end Go.Proofs.Ytkgkcnmnfhehfaa
