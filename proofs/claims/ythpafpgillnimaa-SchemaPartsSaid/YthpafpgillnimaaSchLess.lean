/- What is proved: how a schema of which a component is left out comes to lie in memory, in whatever order its parts are made: facts of worlds, and the runs of single operations. -/
import Derived.Test.YthpafpgillnimaaSchLaw
import Derived.Test.YthpafpgillnimaaSchRow
import Derived.Test.YthpafpgillnimaaSchClone
import Derived.Test.YthpafpgillnimaaRegion
namespace Go.Proofs.Ythpafpgillnimaa
open Go.RowKit Go.Proofs.Heap Go.Proofs.Sch

/-- Under way: a row v of its own, perhaps a schema's box lb, empty yet. -/
structure St (wb : World) (lb : Option Nat) (v : Value) (n : Nat) (xs : List Value) (y : World) : Prop where
  keep : Keep (fun _ => False) wb y
  own : y.ownsRow wb.heap.size 34 3 v n xs
  box : ∀ b, lb = some b → wb.heap.size ≤ b ∧ y.heap[b]? = some (.cells #[.int .i64 0, .slice none 0 0] 24 (0, 0)) ∧ v.ownBlock ≠ some b

theorem cell_keep0 {w w' : World} (h : Keep (fun _ => False) w w') (p : Addr) (u : Value) (hc : w.cell? p = some u) : w'.cell? p = some u :=
  (World.cell?_of_block (a := p) (h.block p.block (World.block_lt_of_cell? w p hc) (fun h => h))).trans hc

theorem St.start {wb : World} : St wb none (.slice none 0 0) 0 [] wb := ⟨Keep.refl _ _, World.ownsRow_nil _ _ _ _, fun _ h => by cases h⟩
theorem St.build {wb y : World} {lb : Option Nat} (h : St wb lb (.slice none 0 0) 0 [] y) : St wb lb (.slice (some ⟨y.heap.size, 0, none⟩) 0 0) 0 [] (y.alloc (.cells #[] 34)) := by
  refine ⟨h.keep.alloc _, ⟨rfl, .inr ⟨y.heap.size, 0, #[], rfl, h.keep.size, heap_alloc_new y _, Nat.le_refl _, by unfold maxLen; omega, rfl, rfl⟩⟩, fun b hb => ?_⟩
  obtain ⟨h1, h2, _⟩ := h.box b hb
  exact ⟨h1, ((Keep.refl (fun _ => False) y).alloc _).get h2 (fun h => h), fun e => by have := lt_of_heap h2; simp [Value.ownBlock] at e; omega⟩
theorem St.alloc {wb y : World} {v : Value} {n : Nat} {xs : List Value} (h : St wb none v n xs y) : St wb (some y.heap.size) v n xs (y.alloc (.cells #[.int .i64 0, .slice none 0 0] 24)) := by
  refine ⟨h.keep.alloc _, owns_keep h.own (fun g hg => ((Keep.refl (fun _ => False) y).alloc _).block g (h.own.lt g hg).2 (fun h => h)), fun b hb => ?_⟩
  injection hb with hb
  subst hb
  exact ⟨h.keep.size, heap_alloc_new y _, fun e => by have := (h.own.lt _ e).2; omega⟩
theorem St.append {wb y y' : World} {lb : Option Nat} {v v' : Value} {n m : Nat} {xs ys : List Value} (h : St wb lb v n xs y) (ho : y'.ownsRow wb.heap.size 34 3 v' m ys) (hg : y.grownBy y' v.ownBlock)
    (ha : v'.ownBlock = v.ownBlock ∨ v'.ownBlock = some y.heap.size) : St wb lb v' m ys y' := by
  refine ⟨h.keep.grown hg (fun k hk => .inl (h.own.lt k hk).1), ho, fun b hb => ?_⟩
  obtain ⟨h1, h2, h3⟩ := h.box b hb
  refine ⟨h1, (hg.block b (lt_of_heap h2) (fun e => h3 e.symm)).trans h2, fun e => ?_⟩
  rcases ha with ha | ha
  · exact h3 (ha ▸ e)
  · rw [ha] at e
    injection e with e
    have := lt_of_heap h2
    omega

/-- At the end the box is filled. -/
theorem St.fill {wb y : World} {b : Nat} {p : Option Addr} {c n : Nat} {xs : List Value} {k : Int} (h : St wb (some b) (.slice p n c) n xs y) :
    Keep (fun _ => False) wb ((y.setCell ⟨b, 0, none⟩ (.int .i64 k)).setCell ⟨b, 1, none⟩ (.slice p n c)) ∧ ((y.setCell ⟨b, 0, none⟩ (.int .i64 k)).setCell ⟨b, 1, none⟩ (.slice p n c)).heap[b]? = some (.cells #[.int .i64 k, .slice p n c] 24 (0, 0)) ∧
    ((y.setCell ⟨b, 0, none⟩ (.int .i64 k)).setCell ⟨b, 1, none⟩ (.slice p n c)).ownsRow wb.heap.size 34 3 (.slice p n c) n xs := by
  obtain ⟨h1, h2, h3⟩ := h.box b rfl
  refine ⟨(h.keep.setCell_new h1 _).setCell_new h1 _, hsc_same (hsc_same h2 0 _) 1 _, owns_keep h.own (fun g hg => ?_)⟩
  have : g ≠ b := fun e => h3 (by rw [← e]; exact hg)
  rw [hsc_ne _ this, hsc_ne _ this]

theorem run_empty (A : Act) (w : World) {d : Tmp} {af : Array Edge} {g : Option (Nat × Bool)} {p : String} :
    (execOp A.eval ⟨some d, Op.buildSlice 22 0 #[], 22, p, af, g⟩).run Try.prog w = .ok (.value (.slice (some ⟨w.heap.size, 0, none⟩) 0 0)) (w.alloc (.cells #[] 34)) := by
  simp [go_sem]
theorem run_box (A : Act) (w : World) {d : Tmp} {af : Array Edge} {g : Option (Nat × Bool)} {p : String} {t : TypeId} :
    (execOp A.eval ⟨some d, Op.alloc 24, t, p, af, g⟩).run Try.prog w = .ok (.value (.pointer (some ⟨w.heap.size, 0, none⟩))) (w.alloc (.cells #[.int .i64 0, .slice none 0 0] 24)) := by
  simp [go_sem]
theorem run_fill (A : Act) (w : World) {i j b : Nat} {af : Array Edge} {g : Option (Nat × Bool)} {ps : String} {t : TypeId} {k : Int} {p : Option Addr} {n c : Nat} {cur : Array Value} {ct : TypeId}
    (e0 : A.eval (.tmp i) = .pointer (some ⟨b, 0, none⟩)) (e1 : A.eval (.tmp j) = .agg #[.int .i64 k, .slice p n c]) (hb : w.heap[b]? = some (.cells cur ct (0, 0))) (hs : cur.size = 2) :
    (execOp A.eval ⟨none, Op.store 24 (.tmp i) (.tmp j), t, ps, af, g⟩).run Try.prog w = .ok .skip ((w.setCell ⟨b, 0, none⟩ (.int .i64 k)).setCell ⟨b, 1, none⟩ (.slice p n c)) := by
  have f0 : A.tmps[i]?.getD undef = .pointer (some ⟨b, 0, none⟩) := by simpa [Act.eval] using e0
  have f1 : A.tmps[j]?.getD undef = .agg #[.int .i64 k, .slice p n c] := by simpa [Act.eval] using e1
  have c0 : ∃ x, w.cell? ⟨b, 0, none⟩ = some x := ⟨_, cell_of hb (Array.getElem?_eq_getElem (by omega))⟩
  have c1 : ∃ x, w.cell? ⟨b, 1, none⟩ = some x := ⟨_, cell_of hb (Array.getElem?_eq_getElem (by omega))⟩
  obtain ⟨x0, c0⟩ := c0
  obtain ⟨x1, c1⟩ := c1
  have z0 := free_of hb 0
  have z1 := free_of hb 1
  simp [go_sem, f0, f1, c0, c1, z0, z1]

section
variable {ops : Array Oper} {Q : Act → World → Prop} {l : List Nat} {r : Plan.Tree} {a : Act} {wb y : World} {lb : Option Nat} {ps : String} {af : Array Edge} {d : Tmp}

theorem tr_empty (hS : St wb lb (.slice none 0 0) 0 [] y) (h : ∀ e y' a', St wb lb (.slice (some ⟨e, 0, none⟩) 0 0) 0 [] y' → a' = a.put (some d) (.slice (some ⟨e, 0, none⟩) 0 0) → Plan.TrQ Try.prog ops Q l r .normal a' y') :
    wpList Try.prog ops (Plan.TrQ Try.prog ops Q l r) [⟨some d, Op.buildSlice 22 0 #[], 22, ps, af, none⟩] a y :=
  Plan.tr_run rfl (run_empty a y) (fun a' ha => h _ _ a' hS.build ha)
theorem tr_box {v : Value} {n : Nat} {xs : List Value} {t : TypeId} (hS : St wb none v n xs y) (h : ∀ b y' a', St wb (some b) v n xs y' → a' = a.put (some d) (.pointer (some ⟨b, 0, none⟩)) → Plan.TrQ Try.prog ops Q l r .normal a' y') :
    wpList Try.prog ops (Plan.TrQ Try.prog ops Q l r) [⟨some d, Op.alloc 24, t, ps, af, none⟩] a y :=
  Plan.tr_run rfl (run_box a y) (fun a' ha => h _ _ a' hS.alloc ha)
theorem tr_fill {i j b n c : Nat} {p : Option Addr} {xs : List Value} {k : Int} {t : TypeId} (hS : St wb (some b) (.slice p n c) n xs y) (e0 : a.eval (.tmp i) = .pointer (some ⟨b, 0, none⟩)) (e1 : a.eval (.tmp j) = .agg #[.int .i64 k, .slice p n c])
    (h : ∀ y', Keep (fun _ => False) wb y' → y'.heap[b]? = some (.cells #[.int .i64 k, .slice p n c] 24 (0, 0)) → y'.ownsRow wb.heap.size 34 3 (.slice p n c) n xs → Plan.TrQ Try.prog ops Q l r .normal a y') :
    wpList Try.prog ops (Plan.TrQ Try.prog ops Q l r) [⟨none, Op.store 24 (.tmp i) (.tmp j), t, ps, af, none⟩] a y := by
  obtain ⟨h1, h2, h3⟩ := hS.fill (k := k)
  exact Plan.tr_run_skip rfl rfl (run_fill a y e0 e1 (hS.box b rfl).2.1 rfl) (h _ h1 h2 h3)
theorem tr_join {v u : Value} {n m N : Nat} {xs ys news : List Value} {s x : Tmp} (hS : St wb lb v n xs y) (hs : a.eval (.tmp s) = v) (hx : a.eval (.tmp x) = u) (hrd : Rd y 3 u m news) (hN : n + m = N) (hy : xs ++ news = ys) (hle : N ≤ 65536)
    (h : ∀ p c y' a', St wb lb (.slice p N c) N ys y' → a' = a.put (some d) (.slice p N c) → Plan.TrQ Try.prog ops Q l r .normal a' y') :
    wpList Try.prog ops (Plan.TrQ Try.prog ops Q l r) [⟨some d, .call { callee := .builtin .append, args := #[.tmp s, .tmp x], argTypes := #[22, 22] }, 22, ps, af, none⟩] a y := by
  obtain ⟨i0, hi0, hz0, hz1, hz2⟩ := info_parts' info_cmp
  subst hN; subst hy
  refine wpList_append_rd rfl (.tmp s) (.tmp x) _ rfl wb.heap.size _ i0 _ 3 48 Try.underlying22 hi0 hz0 hz1 hz2 rfl (by decide) v n xs hs hS.own u m news hx hrd (by unfold maxLen; omega) (by omega) hS.keep.size ?_
  intro v' w' hown hgrow hat _
  obtain ⟨p, c, rfl⟩ := owns_val hown
  unfold wpList
  exact h p c w' _ (hS.append hown hgrow hat) rfl
end
end Go.Proofs.Ythpafpgillnimaa
