/- What is proved: what the schema's check of fields answers. -/
import Derived.Test.YtbnhdmalkmcalaaDoorMCr1
import Derived.Test.YtbnhdmalkmcalaaDoorMRegion
import Derived.Deep.Cut
import Derived.Deep.CutRange
import Derived.Deep.CutBlock
import Derived.Test.YtbnhdmalkmcalaaDoorMHeap
import Derived.Laws.BitsAllLaws
import Derived.Laws.BitsLemmas
namespace Go.Proofs.YtbnhdmalkmcalaaDoor
open Go.RowKit Go.Proofs.Heap Go.Proofs.Sch Go.Proofs.TMap

/-- Whether a text is in a list. -/
def memB (s : ByteArray) (ns : List ByteArray) : Bool := ns.any (fun m => decide (s = m))
/-- Whether names stop a check: one isn't a name, or was there. -/
def fldBad : List ByteArray → List Fld → Bool
  | _, [] => false
  | seen, f :: r => !nameB f.name || (memB f.name seen || fldBad (seen ++ [f.name]) r)
/-- The error of fields with their names. -/
def fieldsC (fs : List Fld) : Nat := if fldBad [] fs = true then 4 else layC fs

def seenF (ns : List ByteArray) : List UInt8 → Bool := fun l => ns.any (fun m => decide (l = m.data.toList))
theorem seenF_mem (ns : List ByteArray) (s : ByteArray) : seenF ns s.data.toList = memB s ns := by
  have h : ∀ m : ByteArray, (s.data.toList = m.data.toList) ↔ s = m := fun m => ⟨fun e => by cases s; cases m; simp at e; simp [e], fun e => e ▸ rfl⟩
  unfold seenF memB
  congr 1
  funext m
  simp only [h m]
theorem seenF_put (ns : List ByteArray) (s : ByteArray) : (fun l => decide (l = s.data.toList) || seenF ns l) = seenF (ns ++ [s]) := by
  funext l
  unfold seenF
  rw [List.any_append]
  simp [Bool.or_comm]
theorem drop_next {α : Type} {l : List α} {k : Nat} {x : α} (h : l[k]? = some x) : l.drop k = x :: l.drop (k + 1) := by
  obtain ⟨hk, rfl⟩ := List.getElem?_eq_some_iff.1 h
  exact List.drop_eq_getElem_cons hk
theorem nameB_size {s : ByteArray} (h : nameB s = true) : s.size ≤ 12 := (of_decide_eq_true h).2.1
theorem zero_bool (w : World) : (zeroValue 4).run Tryd.prog w = .ok (.bool false) w := by kernel_rfl

abbrev TS := TM Tryd.prog 9 4

end Go.Proofs.YtbnhdmalkmcalaaDoor

namespace Go.Proofs.YtbnhdmalkmcalaaDoor
open Go.RowKit Go.Proofs.Heap Go.Proofs.Sch Go.Proofs.TMap

/-- The error of the components that are left. -/
def compsC : Int → List ByteArray → List Cmp → Nat
  | _, _, [] => 0
  | last, seen, c :: r => if c.id ≤ last ∨ 24 < c.id then 1 else if nameB c.name = false ∨ memB c.name seen = true then 4 else if fieldsC c.fs = 0 then compsC c.id (seen ++ [c.name]) r else fieldsC c.fs
/-- The error of a schema. -/
def checkC (v : Int) (cs : List Cmp) : Nat := if v < 1 ∨ 1073741824 < v then 1 else compsC 0 [] cs

/-- A schema of no great size. -/
def Small (cs : List Cmp) : Prop := cs.length ≤ 2932031007402 ∧ ∀ c ∈ cs, c.fs.length ≤ 4398046511104

end Go.Proofs.YtbnhdmalkmcalaaDoor

namespace Go.Proofs.Sch
theorem Fld.ext_iff' (a b : Fld) : (a.name = b.name ∧ a.kind = b.kind ∧ a.count = b.count) ↔ a = b := by
  cases a; cases b; simp
instance : DecidableEq Fld := fun a b => decidable_of_iff _ (Fld.ext_iff' a b)
end Go.Proofs.Sch
namespace Go.Proofs.YtbnhdmalkmcalaaDoor
open Go.RowKit Go.Proofs.Heap Go.Proofs.Sch

theorem take_eq {α : Type} {A B : List α} {k : Nat} {x y : α} (h : A.take k = B.take k) (hx : A[k]? = some x) (hy : B[k]? = some y) (e : x = y) : A.take (k + 1) = B.take (k + 1) := by
  rw [take_next hx, take_next hy, h, e]

theorem toList_inj {a b : ByteArray} (h : a.toList = b.toList) : a = b := of_decide_eq_true (by rw [← seq_dec]; simp [h])

theorem Cmp.ext_iff' (a b : Cmp) : (a.id = b.id ∧ a.name = b.name ∧ a.fs = b.fs) ↔ a = b := by
  cases a; cases b; simp
instance : DecidableEq Cmp := fun a b => decidable_of_iff _ (Cmp.ext_iff' a b)

end Go.Proofs.YtbnhdmalkmcalaaDoor

namespace Go.Proofs.YtbnhdmalkmcalaaDoor
open Go.RowKit Go.Proofs.Heap Go.Proofs.Sch

end Go.Proofs.YtbnhdmalkmcalaaDoor

namespace Go.Proofs.Sch
open Go.RowKit Go.Proofs.Heap

section
variable {α : Type} {g : α → List Value}

theorem flat3_len (hg : ∀ x, (g x).length = 3) (l : List α) : (l.flatMap g).length = l.length * 3 := by
  induction l with
  | nil => rfl
  | cons x l ih => rw [List.flatMap_cons, List.length_append, hg, ih, List.length_cons]; omega
theorem flat3_at (hg : ∀ x, (g x).length = 3) (l : List α) : ∀ (i : Nat) (x : α) (r : Nat), l[i]? = some x → r < 3 → (l.flatMap g)[i * 3 + r]? = (g x)[r]? := by
  induction l with
  | nil => intro i x r h; simp at h
  | cons y l ih =>
    intro i x r h hr
    rw [List.flatMap_cons]
    cases i with
    | zero =>
      simp at h
      subst h
      rw [List.getElem?_append_left (by rw [hg]; omega), Nat.zero_mul, Nat.zero_add]
    | succ i =>
      rw [List.getElem?_append_right (by rw [hg]; omega), hg, show (i + 1) * 3 + r - 3 = i * 3 + r by omega]
      exact ih i x r (by simpa using h) hr
theorem flat3_inv (hg : ∀ x, (g x).length = 3) (l : List α) {j : Nat} {u : Value} (h : (l.flatMap g)[j]? = some u) : ∃ x, l[j / 3]? = some x ∧ (g x)[j % 3]? = some u := by
  have hj := (List.getElem?_eq_some_iff.1 h).1
  rw [flat3_len hg] at hj
  have hi : j / 3 < l.length := by omega
  refine ⟨l[j / 3], List.getElem?_eq_getElem hi, ?_⟩
  rw [← flat3_at hg l (j / 3) _ (j % 3) (List.getElem?_eq_getElem hi) (by omega), show j / 3 * 3 + j % 3 = j by omega]
  exact h

theorem rd_row3 {w : World} {b off c : Nat} {l : List α} (hg : ∀ x, (g x).length = 3) (h1 : ∀ x, ∀ u ∈ g x, u.oneCell' = true) (hc : ∀ i x, l[i]? = some x → ∀ r u, (g x)[r]? = some u → w.cell? ⟨b, off + i * 3 + r, none⟩ = some u) :
    Rd w 3 (.slice (some ⟨b, off, none⟩) l.length c) l.length (l.flatMap g) := by
  refine ⟨flat3_len hg l, ?_, .inr ⟨_, _, rfl, fun j u hj => ?_⟩⟩
  · intro u hu
    obtain ⟨x, _, hx⟩ := List.mem_flatMap.1 hu
    exact h1 x u hx
  · obtain ⟨x, hx, hu⟩ := flat3_inv hg l hj
    have := hc _ _ hx _ _ hu
    have hadd : (⟨b, off, none⟩ : Addr).add j = ⟨b, off + j, none⟩ := by unfold Addr.add; split <;> simp_all
    rw [hadd, show off + j = off + j / 3 * 3 + j % 3 by omega]
    exact this

/-- An owned row's cell. -/
theorem owns3_cell {w : World} {base : Nat} {e : TypeId} {q c n : Nat} {l : List α} (hg : ∀ x, (g x).length = 3) (h : w.ownsRow base e 3 (.slice (some ⟨q, 0, none⟩) n c) n (l.flatMap g)) {i r : Nat} {x : α} {u : Value} (hx : l[i]? = some x) (hu : (g x)[r]? = some u) : w.cell? ⟨q, i * 3 + r, none⟩ = some u := by
  have hr : r < 3 := by have := (List.getElem?_eq_some_iff.1 hu).1; rw [hg] at this; exact this
  have := h.cells (g := q) rfl (i * 3 + r) u (by rw [flat3_at hg l i x r hx hr]; exact hu)
  have hadd : (⟨q, 0, none⟩ : Addr).add (i * 3 + r) = ⟨q, i * 3 + r, none⟩ := by unfold Addr.add; split <;> simp_all
  rwa [hadd] at this

/-- A cell of an owned row is set. -/
theorem owns_set3 {w : World} {base : Nat} {e : TypeId} {q c n : Nat} {xs : List Value} (h : w.ownsRow base e 3 (.slice (some ⟨q, 0, none⟩) n c) n xs) (k : Nat) (x : Value) :
    (w.setCell ⟨q, k, none⟩ x).ownsRow base e 3 (.slice (some ⟨q, 0, none⟩) n c) n (xs.set k x) := by
  rcases owns_block h with ⟨e1, _⟩ | ⟨g', c', cur, e1, hb, hg, hn, hm, hs, ht⟩
  · cases e1
  · injection e1 with e1 _ e2
    injection e1 with e1
    injection e1 with e1
    subst e1; subst e2
    refine ⟨by rw [List.length_set]; exact h.1, .inr ⟨_, _, _, rfl, hb, hsc_same hg k x, hn, hm, by simpa using hs, ?_⟩⟩
    rw [← ht]
    simp [List.take_set]
end

def fcl (f : Fld) : List Value := [.string f.name, .int .i64 f.kind, .int .i64 f.count]
theorem fcl_len (f : Fld) : (fcl f).length = 3 := rfl
theorem fcl_one (f : Fld) : ∀ u ∈ fcl f, u.oneCell' = true := by
  intro u hu; simp [fcl] at hu; rcases hu with rfl | rfl | rfl <;> rfl
/-- A component with its row's address and room. -/
abbrev Cv := Cmp × Option Addr × Nat
def ccl (c : Cv) : List Value := [.int .i64 c.1.id, .string c.1.name, .slice c.2.1 c.1.fs.length c.2.2]
theorem ccl_len (c : Cv) : (ccl c).length = 3 := rfl
theorem ccl_one (c : Cv) : ∀ u ∈ ccl c, u.oneCell' = true := by
  intro u hu; simp [ccl] at hu; rcases hu with rfl | rfl | rfl <;> rfl

theorem rd_fields {w : World} {B b off c : Nat} {l : List Fld} (h : FP w B (some ⟨b, off, none⟩) l) : Rd w 3 (.slice (some ⟨b, off, none⟩) l.length c) l.length (l.flatMap fcl) := by
  refine rd_row3 fcl_len fcl_one fun i x hx r u hu => ?_
  obtain ⟨b', off', e, _, h0, h1, h2⟩ := FP.at h hx
  injection e with e
  injection e with e1 e2
  subst e1; subst e2
  match r, hu with
  | 0, hu => injection hu with hu; subst hu; exact h0
  | 1, hu => injection hu with hu; subst hu; exact h1
  | 2, hu => injection hu with hu; subst hu; exact h2
  | _ + 3, hu => simp [fcl] at hu

/-- An owned row of fields is a row of fields. -/
theorem fp_own {w : World} {base n : Nat} {e : TypeId} {p : Option Addr} {c : Nat} {l : List Fld} (hn : l.length = n) (h : w.ownsRow base e 3 (.slice p n c) n (l.flatMap fcl)) : FP w w.heap.size p l := by
  rcases Nat.eq_zero_or_pos n with h0 | h0
  · exact .inl (List.eq_nil_of_length_eq_zero (by omega))
  · obtain ⟨q, rfl⟩ := owns_some h h0
    refine .inr ⟨q, 0, rfl, (h.lt q (by simp [Value.ownBlock])).2, fun i x hx => ?_⟩
    have e0 := owns3_cell fcl_len h hx (r := 0) (u := .string x.name) rfl
    have e1 := owns3_cell fcl_len h hx (r := 1) (u := .int .i64 x.kind) rfl
    have e2 := owns3_cell fcl_len h hx (r := 2) (u := .int .i64 x.count) rfl
    rw [Nat.zero_add]
    exact ⟨e0, e1, e2⟩

/-- The components' rows: the addresses and rooms of a schema. -/
def CV (w : World) (B : Nat) (l : List Cv) : Prop := ∀ c ∈ l, c.1.fs.length ≤ c.2.2 ∧ FP w B c.2.1 c.1.fs
theorem CV.low {w w' : World} {B : Nat} {l : List Cv} (h : CV w B l) (hl : Low B w w') : CV w' B l := fun c hc => ⟨(h c hc).1, FP.low (h c hc).2 hl⟩
theorem CV.mono {w : World} {B B' : Nat} {l : List Cv} (h : CV w B l) (hb : B ≤ B') : CV w B' l := fun c hc => ⟨(h c hc).1, FP.mono (h c hc).2 hb⟩

theorem cp_own {w : World} {base n : Nat} {e : TypeId} {p : Option Addr} {c : Nat} {l : List Cv} (hn : l.length = n) (h : w.ownsRow base e 3 (.slice p n c) n (l.flatMap ccl)) (hv : CV w w.heap.size l) : CP w w.heap.size p (l.map (·.1)) := by
  rcases Nat.eq_zero_or_pos n with h0 | h0
  · exact .inl (by rw [List.eq_nil_of_length_eq_zero (by omega : l.length = 0)]; rfl)
  · obtain ⟨q, rfl⟩ := owns_some h h0
    refine .inr ⟨q, 0, rfl, (h.lt q (by simp [Value.ownBlock])).2, fun i x hx => ?_⟩
    rw [List.getElem?_map] at hx
    cases hy : l[i]? with
    | none => rw [hy] at hx; cases hx
    | some y =>
      rw [hy] at hx
      injection hx with hx
      subst hx
      have e0 := owns3_cell ccl_len h hy (r := 0) (u := .int .i64 y.1.id) rfl
      have e1 := owns3_cell ccl_len h hy (r := 1) (u := .string y.1.name) rfl
      have e2 := owns3_cell ccl_len h hy (r := 2) (u := .slice y.2.1 y.1.fs.length y.2.2) rfl
      have hv' := hv y (List.mem_of_getElem? hy)
      rw [Nat.zero_add]
      exact ⟨e0, e1, y.2.1, y.2.2, e2, hv'.1, hv'.2⟩

/-- A row of components, with what its cells hold. -/
theorem cp_rows {w : World} {B b off : Nat} {l : List Cmp} (h : CP w B (some ⟨b, off, none⟩) l) : ∃ vs : List Cv, vs.map (·.1) = l ∧ CV w B vs ∧ ∀ i x, vs[i]? = some x → ∀ r u, (ccl x)[r]? = some u → w.cell? ⟨b, off + i * 3 + r, none⟩ = some u := by
  have key : ∀ k, k ≤ l.length → ∃ vs : List Cv, vs.map (·.1) = l.take k ∧ CV w B vs ∧ ∀ i x, vs[i]? = some x → ∀ r u, (ccl x)[r]? = some u → w.cell? ⟨b, off + i * 3 + r, none⟩ = some u := by
    intro k
    induction k with
    | zero => intro _; exact ⟨[], by simp, fun c hc => by simp at hc, fun i x hx => by simp at hx⟩
    | succ k ih =>
      intro hk
      obtain ⟨vs, h1, h2, h3⟩ := ih (by omega)
      have hx : l[k]? = some l[k] := List.getElem?_eq_getElem (by omega)
      obtain ⟨b', off', q, z, e, _, c0, c1, c2, c3, c4⟩ := CP.at h hx
      injection e with e
      injection e with e1 e2
      subst e1; subst e2
      have hvl : vs.length = k := by have := congrArg List.length h1; rw [List.length_map, List.length_take] at this; omega
      refine ⟨vs ++ [(l[k], q, z)], ?_, ?_, ?_⟩
      · rw [List.map_append, h1, List.take_add_one, hx]; rfl
      · intro c hc
        rcases List.mem_append.1 hc with hc | hc
        · exact h2 c hc
        · rw [List.mem_singleton.1 hc]; exact ⟨c3, c4⟩
      · intro i x hi r u hu
        by_cases hik : i < vs.length
        · rw [List.getElem?_append_left hik] at hi
          exact h3 i x hi r u hu
        · rw [List.getElem?_append_right (by omega)] at hi
          have hi0 : i - vs.length = 0 := by
            have := (List.getElem?_eq_some_iff.1 hi).1
            simp at this; omega
          rw [hi0] at hi
          injection hi with hi
          subst hi
          have hik : i = k := by omega
          subst hik
          match r, hu with
          | 0, hu => injection hu with hu; subst hu; exact c0
          | 1, hu => injection hu with hu; subst hu; exact c1
          | 2, hu => injection hu with hu; subst hu; exact c2
          | _ + 3, hu => simp [ccl] at hu
  obtain ⟨vs, h1, h2, h3⟩ := key l.length (Nat.le_refl _)
  exact ⟨vs, by rw [h1, List.take_length], h2, h3⟩
end Go.Proofs.Sch

namespace Go.Proofs.YtbnhdmalkmcalaaDoor
open Go.RowKit Go.Proofs.Heap Go.Proofs.Sch

theorem owns_room {w : World} {base : Nat} {e : TypeId} {size n c : Nat} {p : Option Addr} {xs : List Value} (h : w.ownsRow base e size (.slice p n c) n xs) : n ≤ c := by
  rcases owns_block h with ⟨e1, e2, _⟩ | ⟨g, c', cur, e1, _, _, hn, _⟩
  · omega
  · injection e1 with _ _ e3; omega

theorem flat_set2 (nw r : List Cv) (x : Cv) (p : Option Addr) (c : Nat) : ((nw ++ x :: r).flatMap ccl).set (nw.length * 3 + 2) (.slice p x.1.fs.length c) = ((nw ++ [(x.1, p, c)]) ++ r).flatMap ccl := by
  have hl := flat3_len ccl_len nw
  rw [List.flatMap_append, List.flatMap_append, List.flatMap_append, List.set_append_right _ _ (by omega), hl, show nw.length * 3 + 2 - nw.length * 3 = 2 by omega, List.append_assoc]
  rfl

end Go.Proofs.YtbnhdmalkmcalaaDoor

namespace Go.Proofs.YtbnhdmalkmcalaaDoor
open Go.RowKit Go.Proofs.Heap Go.Proofs.Sch

/-- The place of the first one; less than nought: there is none. -/
def idxI {α : Type} (q : α → Bool) (l : List α) : Int := match l.findIdx? q with | some i => (i : Int) | none => -1
theorem idx_at {α : Type} {q : α → Bool} {l : List α} {k : Nat} {x : α} (hx : l[k]? = some x) (hq : q x = true) (h : ∀ y ∈ l.take k, q y = false) : idxI q l = (k : Int) := by
  have : l.findIdx? q = some k := by
    rw [List.findIdx?_eq_some_iff_getElem]
    obtain ⟨hk, rfl⟩ := List.getElem?_eq_some_iff.1 hx
    refine ⟨hk, hq, fun j hj => ?_⟩
    have := h l[j] (by rw [List.mem_take_iff_getElem]; exact ⟨j, by omega, rfl⟩)
    simp [this]
  unfold idxI; rw [this]
theorem idx_none {α : Type} {q : α → Bool} {l : List α} (h : ∀ y ∈ l, q y = false) : idxI q l = -1 := by
  unfold idxI; rw [List.findIdx?_eq_none_iff.2 h]

end Go.Proofs.YtbnhdmalkmcalaaDoor

namespace Go.Proofs.YtbnhdmalkmcalaaDoor
open Go.RowKit Go.Proofs.Heap Go.Proofs.Sch

theorem sig_is (n : Nat) (hn : n < 4294967296) (w : World) : Calls Tryd.prog 50 #[.int .u32 (n : Int)] w fun r w' => r = .returned (.bool (isSig n)) ∧ w = w' := by
  have hb : bits .andNot .u32 (n : Int) 33554430 = ((n &&& (4294967295 - 33554430) : Nat) : Int) := u32_andNot_nat n 33554430 hn (by omega)
  have G : Hid ((((n &&& (4294967295 - 33554430) : Nat) : Int) == 0) = isSig n) := hid (by
    unfold isSig
    rw [show 4294967295 - 33554430 = 4261412865 from rfl]
    generalize n &&& 4261412865 = m
    by_cases h : m = 0
    · subst h; rfl
    · rw [beq_eq_false_iff_ne.2 (by omega), decide_eq_false h])
  generalize n &&& (4294967295 - 33554430) = m at *
  go_enter Tryd.func50, Tryd.ntmps50
  go_wp2
  go_ret
  exact ⟨by rw [← G.out]; rfl, rfl⟩
theorem sig_meets (a b : Nat) (ha : a < 4294967296) (hb : b < 4294967296) (w : World) : Calls Tryd.prog 51 #[.int .u32 (a : Int), .int .u32 (b : Int)] w fun r w' => r = .returned (.bool (meetsB a b)) ∧ w = w' := by
  have h1 := u32_and_nat a b ha hb
  have hab : a &&& b < 4294967296 := Nat.lt_of_le_of_lt Nat.and_le_left ha
  have h2 : bits .and .u32 ((a &&& b : Nat) : Int) 33554430 = ((a &&& b &&& 33554430 : Nat) : Int) := u32_and_nat (a &&& b) 33554430 hab (by omega)
  have G : Hid ((((a &&& b &&& 33554430 : Nat) : Int) != 0) = meetsB a b) := hid (by
    unfold meetsB
    generalize a &&& b &&& 33554430 = m
    by_cases h : m = 0
    · subst h; rfl
    · rw [bne, beq_eq_false_iff_ne.2 (by omega), decide_eq_true h]; rfl)
  generalize a &&& b &&& 33554430 = m at *
  generalize a &&& b = c at *
  go_enter Tryd.func51, Tryd.ntmps51
  go_wp2
  go_ret
  exact ⟨by rw [← G.out]; rfl, rfl⟩

/-- Where a string is in a row. -/
def idxS (s : ByteArray) (l : List ByteArray) : Int := idxI (fun t => decide (s = t)) l
set_option maxRecDepth 20000 in
set_option maxHeartbeats 4000000 in
theorem index_str (l : List ByteArray) (s : ByteArray) (p : Option Addr) (cap : Nat) (w : World) (hl : l.length ≤ 65536) (hf : TP w w.heap.size p l) :
    Calls Tryd.prog 127 #[.slice p l.length cap, .string s] w fun r w' => r = .returned (.int .i64 (idxS s l)) ∧ w = w' := by
  have HF := hid hf
  clear hf
  have HQ : Hid (idxS s l = idxI (fun t => decide (s = t)) l) := hid rfl
  generalize idxS s l = R at *
  go_enter Tryd.func127, Tryd.ntmps127
  go_wp2_with fail
  go_loopw [5, 8] (fun _ i wr => ∃ k : Nat, k ≤ l.length ∧ i = iV k ∧ w = wr ∧ ∀ c ∈ l.take k, decide (s = c) = false) (fun _ i _ => l.length + 1 - (RowKit.intOf i).toNat)
  case atStart => exact ⟨0, by omega, rfl, rfl, by simp⟩
  case round =>
    obtain ⟨k, hk, rfl, rfl, hall⟩ := hrel
    have HA := hid hall
    clear hall
    by_cases hlt : k < l.length
    · obtain ⟨t, htk⟩ : ∃ t, l[k]? = some t := ⟨l[k], by simp [hlt]⟩
      obtain ⟨b, off, rfl, hb, c0⟩ := TP.at HF.out htk
      have hin : (0 : Int) ≤ (k : Int) ∧ (k : Int) < (l.length : Int) := ⟨by omega, by omega⟩
      have hsq := seq_dec s t
      have HTK := hid htk
      clear htk hb
      cases hd : decide (s = t)
      · have HN : Hid (∀ d ∈ l.take (k + 1), decide (s = d) = false) := hid (fun d hd' => by
          rw [take_next HTK.out] at hd'
          rcases List.mem_append.1 hd' with h | h
          · exact HA.out d h
          · rw [List.mem_singleton.1 h]; exact hd)
        rw [hd] at hsq
        clear hd
        go_wp2
        go_roundw
        case rel => exact ⟨k + 1, by omega, by go_num, by first | rfl | trivial, HN.out⟩
        case measure => simp [RowKit.intOf]; omega
      · have G3 := hid (idx_at (q := fun t => decide (s = t)) HTK.out hd HA.out)
        rw [hd] at hsq
        clear hd
        go_wp2
        go_ret
        exact ⟨by rw [HQ.out, G3.out]; rfl, rfl⟩
    · obtain rfl : k = l.length := by omega
      have G3 := hid (idx_none (q := fun t => decide (s = t)) (l := l) (by have := HA.out; rwa [List.take_length] at this))
      have g1 : decide ((l.length : Int) < (l.length : Int)) = false := decide_eq_false (by omega)
      have g2 : decide (l.length < l.length) = false := decide_eq_false (by omega)
      go_wp2
      go_ret
      exact ⟨by rw [HQ.out, G3.out]; rfl, rfl⟩
def memS (s : ByteArray) (l : List ByteArray) : Bool := l.any (fun t => decide (s = t))
theorem idx_has (s : ByteArray) (l : List ByteArray) : decide (0 ≤ idxS s l) = memS s l := by
  unfold idxS idxI memS
  cases h : l.findIdx? (fun t => decide (s = t)) with
  | none =>
    rw [List.findIdx?_eq_none_iff] at h
    have : l.any (fun t => decide (s = t)) = false := by
      rw [List.any_eq_false]
      intro t ht
      rw [h t ht]; simp
    rw [this]; rfl
  | some i =>
    rw [List.findIdx?_eq_some_iff_getElem] at h
    obtain ⟨hi, hq, _⟩ := h
    have : l.any (fun t => decide (s = t)) = true := List.any_eq_true.2 ⟨l[i], List.getElem_mem hi, hq⟩
    rw [this]
    exact decide_eq_true (Int.natCast_nonneg i)
set_option maxRecDepth 20000 in
set_option maxHeartbeats 4000000 in
theorem contains_str (l : List ByteArray) (s : ByteArray) (p : Option Addr) (cap : Nat) (w : World) (hl : l.length ≤ 65536) (hf : TP w w.heap.size p l) :
    Calls Tryd.prog 96 #[.slice p l.length cap, .string s] w fun r w' => r = .returned (.bool (memS s l)) ∧ w = w' := by
  have HI := hid (index_str l s p cap w hl hf)
  have HH := hid (idx_has s l)
  clear hl hf
  generalize idxS s l = z at *
  generalize memS s l = R at *
  go_enter Tryd.func96, Tryd.ntmps96
  go_wp2_with fail
  refine HI.out.mono ?_
  rintro r w1 ⟨rfl, rfl⟩
  go_wp2
  go_ret
  exact ⟨by rw [← HH.out]; rfl, rfl⟩
end Go.Proofs.YtbnhdmalkmcalaaDoor

namespace Go.Proofs.YtbnhdmalkmcalaaDoor
open Go.RowKit Go.Proofs.Heap Go.Proofs.Sch

def afterAt (name : ByteArray) (l : List ByteArray) (i : Nat) : Bool := match l[i]? with
  | some t => nameB t && (!decide (t = name) && !memS t (l.take i))
  | none => true
def afterC (name : ByteArray) (l : List ByteArray) : Nat := if 4 < l.length then 5 else if (List.range l.length).all (afterAt name l) = true then 0 else 4
/-- A system's cells, its rows at these places. -/
abbrev SysC (s : VSys) (pa : Option Addr) (ca : Nat) (pc : Option Addr) (cc : Nat) : Array Value := #[.string s.name, .int .i64 s.stage, .slice pa s.after.length ca, .int .u32 (s.all : Int), .int .u32 (s.none : Int), .slice pc s.code.length cc]
abbrev SysV (s : VSys) (pa : Option Addr) (ca : Nat) (pc : Option Addr) (cc : Nat) : Value := .agg #[.string s.name, .int .i64 s.stage, .slice pa s.after.length ca, .int .u32 (s.all : Int), .int .u32 (s.none : Int), .slice pc s.code.length cc]
theorem TP.take {w : World} {B : Nat} {p : Option Addr} {l : List ByteArray} (h : TP w B p l) (k : Nat) : TP w B p (l.take k) := by
  rcases h with rfl | ⟨b, off, hp, hb, hc⟩
  · exact .inl (by simp)
  · refine .inr ⟨b, off, hp, hb, fun i x hi => hc i x ?_⟩
    by_cases hik : i < k
    · rwa [List.getElem?_take_of_lt hik] at hi
    · rw [List.getElem?_eq_none (by rw [List.length_take]; omega)] at hi; cases hi

set_option maxRecDepth 20000 in
set_option maxHeartbeats 8000000 in
theorem sys_after (s : VSys) (pa : Option Addr) (ca : Nat) (pc : Option Addr) (cc : Nat) (w : World) (hca : s.after.length ≤ ca) (hf : TP w w.heap.size pa s.after) :
    Calls Tryd.prog 49 #[SysV s pa ca pc cc] w fun r w' => r = .returned (.int .i64 (afterC s.name s.after : Int)) ∧ Keep (fun _ => False) w w' := by
  obtain ⟨w1, hw1, hb1, hs1, hk1⟩ := box1 w (SysC s pa ca pc cc) 27
  have HK1 := hid hk1
  have HF : Hid (TP w1 w1.heap.size pa s.after) := hid (TP.mono (TP.low hf (Low.keep0 hk1)) hk1.size)
  have HC := hid hca
  have c0 := cell_of hb1 (i := 0) (by rfl)
  have c2 := cell_of hb1 (i := 2) (by rfl)
  have HR : Hid (afterC s.name s.after = if 4 < s.after.length then 5 else if (List.range s.after.length).all (afterAt s.name s.after) = true then 0 else 4) := hid rfl
  generalize afterC s.name s.after = R at *
  clear hb1 hs1 hk1 hf hca
  go_enter Tryd.func49, Tryd.ntmps49
  go_upto_region 1 with fail
  rw [← hw1]
  clear hw1
  generalize w.heap.size = sb at *
  simp only [List.getElem_toArray, List.getElem_cons_succ, List.getElem_cons_zero] at c0 c2
  by_cases h4 : 4 < s.after.length
  · have g1 : decide ((4 : Int) < (s.after.length : Int)) = true := decide_eq_true (by omega)
    have g2 : decide (4 < s.after.length) = true := decide_eq_true h4
    have G : Hid (R = 5) := hid (by rw [HR.out, if_pos h4])
    go_wp2
    go_ret
    exact ⟨by rw [G.out]; rfl, HK1.out⟩
  have g1 : decide ((4 : Int) < (s.after.length : Int)) = false := decide_eq_false (by omega)
  have g2 : decide (4 < s.after.length) = false := decide_eq_false h4
  have HR2 : Hid (R = if (List.range s.after.length).all (afterAt s.name s.after) = true then 0 else 4) := hid (by rw [HR.out, if_neg h4])
  clear HR
  go_wp2_with fail
  clear g1 g2
  go_loopw [3, 4, 12] (fun _ _ i wr => ∃ k : Nat, k ≤ s.after.length ∧ i = iV k ∧ w1 = wr ∧ ∀ j, j < k → afterAt s.name s.after j = true) (fun _ _ i _ => s.after.length + 1 - (RowKit.intOf i).toNat)
  case atStart => exact ⟨0, by omega, rfl, rfl, fun j h => by omega⟩
  case round =>
    obtain ⟨k, hk, rfl, rfl, hall⟩ := hrel
    have HA := hid hall
    clear hall
    by_cases hlt : k < s.after.length
    · obtain ⟨t, htk⟩ : ∃ t, s.after[k]? = some t := ⟨s.after[k], by simp [hlt]⟩
      have HNO : Hid (afterAt s.name s.after k = false → R = 4) := hid (fun h => by
        rw [HR2.out, if_neg]
        intro h2
        rw [List.all_eq_true] at h2
        rw [h2 k (List.mem_range.2 hlt)] at h
        cases h)
      have HAT : Hid (afterAt s.name s.after k = (nameB t && (!decide (t = s.name) && !memS t (s.after.take k)))) := hid (by unfold afterAt; rw [htk])
      have HYES : Hid (afterAt s.name s.after k = true → ∀ j, j < k + 1 → afterAt s.name s.after j = true) := hid (fun h j hj => by
        by_cases hjk : j < k
        · exact HA.out j hjk
        · have : j = k := by omega
          subst this; exact h)
      obtain ⟨b, off, hpa, hb, d0⟩ := TP.at HF.out htk
      have HTK := hid (TP.take HF.out k)
      have hin : (0 : Int) ≤ (k : Int) ∧ (k : Int) < (s.after.length : Int) := ⟨by omega, by omega⟩
      have hsl : (0 : Int) ≤ (0 : Int) ∧ (0 : Int) ≤ (k : Int) ∧ (k : Int) ≤ (ca : Int) := ⟨by omega, by omega, by have := HC.out; omega⟩
      have hca : (k : Int) ≤ (ca : Int) := hsl.2.2
      have hlk : (s.after.take k).length = k := by rw [List.length_take]; omega
      have hsq := seq_dec t s.name
      subst hpa
      clear htk hb
      have HCS := hid (contains_str (s.after.take k) t (some ⟨b, off, none⟩) ca w1 (by rw [hlk]; omega) HTK.out)
      rw [hlk] at HCS
      clear hlk
      go_wp2_with fail
      refine (is_name t _).mono ?_
      rintro r w_ ⟨rfl, rfl⟩
      cases hnb : nameB t
      · have G := hid (HNO.out (by rw [HAT.out, hnb]; rfl))
        clear hnb
        go_wp2
        go_ret
        exact ⟨by rw [G.out]; rfl, HK1.out⟩
      cases hd : decide (t = s.name)
      · rw [hd] at hsq
        go_wp2_with fail
        refine HCS.out.mono ?_
        rintro r w_ ⟨rfl, rfl⟩
        cases hm : memS t (s.after.take k)
        · have G := hid (HYES.out (by rw [HAT.out, hnb, hd, hm]; rfl))
          clear hnb hd hm
          go_wp2
          go_roundw
          case rel => exact ⟨k + 1, by omega, by go_num, by first | rfl | trivial, G.out⟩
          case measure => simp [RowKit.intOf]; omega
        · have G := hid (HNO.out (by rw [HAT.out, hnb, hd, hm]; rfl))
          clear hnb hd hm
          go_wp2
          go_ret
          exact ⟨by rw [G.out]; rfl, HK1.out⟩
      · have G := hid (HNO.out (by rw [HAT.out, hnb, hd]; rfl))
        rw [hd] at hsq
        clear hnb hd
        go_wp2
        go_ret
        exact ⟨by rw [G.out]; rfl, HK1.out⟩
    · obtain rfl : k = s.after.length := by omega
      have G : Hid (R = 0) := hid (by rw [HR2.out, if_pos (by rw [List.all_eq_true]; intro j hj; exact HA.out j (List.mem_range.1 hj))])
      have g1 : decide ((s.after.length : Int) < (s.after.length : Int)) = false := decide_eq_false (by omega)
      have g2 : decide (s.after.length < s.after.length) = false := decide_eq_false (by omega)
      go_wp2
      go_ret
      exact ⟨by rw [G.out]; rfl, HK1.out⟩
end Go.Proofs.YtbnhdmalkmcalaaDoor

namespace Go.Proofs.YtbnhdmalkmcalaaDoor
open Go.RowKit Go.Proofs.Heap Go.Proofs.Sch

set_option maxRecDepth 20000 in
set_option maxHeartbeats 2000000 in
theorem op_clo (x : VOp) (n cap sb : Nat) (pc : Option Addr) (w : World) (hc : w.cell? ⟨sb, 5, none⟩ = some (.slice pc n cap)) :
    Calls Tryd.prog 53 #[OV x, .pointer (some ⟨sb, 0, none⟩)] w fun r w' => r = .returned (.bool (!goodOp n x)) ∧ Keep (fun _ => False) w w' := by
  obtain ⟨w1, hw1, hb1, hs1, hk1⟩ := box1 w (OC x) 50
  have HK1 := hid hk1
  have hlt := World.block_lt_of_cell? w _ hc
  have hc2 : w1.cell? ⟨sb, 5, none⟩ = some (.slice pc n cap) := ((Low.keep0 hk1).cell (o := 5) hlt).trans hc
  have c0 := cell_of hb1 (i := 0) (by rfl)
  have c1 := cell_of hb1 (i := 1) (by rfl)
  have c2 := cell_of hb1 (i := 2) (by rfl)
  have c3 := cell_of hb1 (i := 3) (by rfl)
  have c4 := cell_of hb1 (i := 4) (by rfl)
  clear hb1 hs1 hk1 hc hlt
  go_enter Tryd.func53, Tryd.ntmps53
  go_upto_region 1 with fail
  rw [← hw1]
  clear hw1
  generalize w.heap.size = xb at *
  simp only [List.getElem_toArray, List.getElem_cons_succ, List.getElem_cons_zero] at c0 c1 c2 c3 c4
  go_wp2_with fail
  refine (is_op x n _).mono ?_
  rintro r w2 ⟨rfl, hk2⟩
  have HK2 := hid (HK1.out.trans hk2)
  clear hk2
  go_wp2
  go_ret
  exact ⟨rfl, HK2.out⟩

set_option maxRecDepth 20000 in
set_option maxHeartbeats 4000000 in
theorem idx_ops (l : List VOp) (m cc sb : Nat) (pm : Option Addr) (p : Option Addr) (cap : Nat) (w : World) (hl : l.length ≤ 65536) (hf : VP w w.heap.size p l) (hc : w.cell? ⟨sb, 5, none⟩ = some (.slice pm m cc)) :
    Calls Tryd.prog 97 #[.slice p l.length cap, .func (.func 53) #[] #[.pointer (some ⟨sb, 0, none⟩)]] w fun r w' => r = .returned (.int .i64 (idxI (fun x => !goodOp m x) l)) ∧ Keep (fun _ => False) w w' := by
  have HF := hid hf
  have HQ : Hid (∀ (x : VOp) (wy : World), Keep (fun _ => False) w wy → Calls Tryd.prog 53 #[OV x, .pointer (some ⟨sb, 0, none⟩)] wy fun r w' => r = .returned (.bool ((fun x => !goodOp m x) x)) ∧ Keep (fun _ => False) wy w') :=
    hid (fun x wy hk => op_clo x m cc sb pm wy (((Low.keep0 hk).cell (o := 5) (World.block_lt_of_cell? w _ hc)).trans hc))
  obtain ⟨q, hqe⟩ : ∃ q : VOp → Bool, q = (fun x => !goodOp m x) := ⟨_, rfl⟩
  rw [← hqe] at HQ
  rw [← hqe]
  clear hf hc hqe
  go_enter Tryd.func97, Tryd.ntmps97
  go_wp2_with fail
  go_loopw [5, 8] (fun _ i wr => ∃ k : Nat, k ≤ l.length ∧ i = iV k ∧ Keep (fun _ => False) w wr ∧ ∀ c ∈ l.take k, q c = false) (fun _ i _ => l.length + 1 - (intOf i).toNat)
  case atStart => exact ⟨0, by omega, rfl, Keep.refl _ _, by simp⟩
  case round =>
    obtain ⟨k, hk, rfl, hkeep, hall⟩ := hrel
    have HK := hid hkeep; have HA := hid hall
    clear hkeep hall
    by_cases hlt : k < l.length
    · obtain ⟨x, hxk⟩ : ∃ x, l[k]? = some x := ⟨l[k], by simp [hlt]⟩
      obtain ⟨b, off, rfl, hb, c0, c1, c2, c3, c4⟩ := VP.at (VP.low HF.out (Low.keep0 HK.out)) hxk
      have hin : (0 : Int) ≤ (k : Int) ∧ (k : Int) < (l.length : Int) := ⟨by omega, by omega⟩
      have HCK := hid hxk
      clear hxk hb
      go_wp2_with fail
      refine (HQ.out x _ HK.out).mono ?_
      rintro r w1 ⟨rfl, hk1⟩
      have HK1 := hid (HK.out.trans hk1)
      clear hk1 c0 c1 c2 c3 c4
      cases hqc : q x
      · have HN : Hid (∀ d ∈ l.take (k + 1), q d = false) := hid (fun d hd => by
          rw [take_next HCK.out] at hd
          rcases List.mem_append.1 hd with h | h
          · exact HA.out d h
          · rw [List.mem_singleton.1 h]; exact hqc)
        clear hqc
        go_wp2
        go_roundw
        case rel => exact ⟨k + 1, by omega, by go_num, HK1.out, HN.out⟩
        case measure => simp [intOf]; omega
      · have G3 := hid (idx_at HCK.out hqc HA.out)
        clear hqc
        go_wp2
        go_ret
        exact ⟨by rw [G3.out]; rfl, HK1.out⟩
    · obtain rfl : k = l.length := by omega
      have G3 := hid (idx_none (q := q) (l := l) (by have := HA.out; rwa [List.take_length] at this))
      go_wp2
      go_ret
      exact ⟨by rw [G3.out]; rfl, HK.out⟩
theorem idx_bad (m : Nat) (l : List VOp) : decide (0 ≤ idxI (fun x => !goodOp m x) l) = !l.all (goodOp m) := by
  unfold idxI
  cases h : l.findIdx? (fun x => !goodOp m x) with
  | none =>
    rw [List.findIdx?_eq_none_iff] at h
    have : l.all (goodOp m) = true := by
      rw [List.all_eq_true]
      intro t ht
      have := h t ht
      simpa using this
    rw [this]; rfl
  | some i =>
    rw [List.findIdx?_eq_some_iff_getElem] at h
    obtain ⟨hi, hq, _⟩ := h
    have : l.all (goodOp m) = false := List.all_eq_false.2 ⟨l[i], List.getElem_mem hi, by simpa using hq⟩
    rw [this]
    exact decide_eq_true (Int.natCast_nonneg i)
set_option maxRecDepth 20000 in
set_option maxHeartbeats 4000000 in
theorem bad_ops (l : List VOp) (m cc sb : Nat) (pm : Option Addr) (p : Option Addr) (cap : Nat) (w : World) (hl : l.length ≤ 65536) (hf : VP w w.heap.size p l) (hc : w.cell? ⟨sb, 5, none⟩ = some (.slice pm m cc)) :
    Calls Tryd.prog 52 #[.slice p l.length cap, .func (.func 53) #[] #[.pointer (some ⟨sb, 0, none⟩)]] w fun r w' => r = .returned (.bool (!l.all (goodOp m))) ∧ Keep (fun _ => False) w w' := by
  have HI := hid (idx_ops l m cc sb pm p cap w hl hf hc)
  have HH := hid (idx_bad m l)
  clear hl hf hc
  generalize idxI (fun x => !goodOp m x) l = z at *
  generalize (!l.all (goodOp m)) = R at *
  go_enter Tryd.func52, Tryd.ntmps52
  go_wp2_with fail
  refine HI.out.mono ?_
  rintro r w1 ⟨rfl, hk⟩
  have HK := hid hk
  clear hk
  go_wp2
  go_ret
  exact ⟨by rw [← HH.out]; rfl, HK.out⟩

/-- The error of a system. -/
def sysC (s : VSys) : Nat :=
  if nameB s.name = false then 4 else if s.stage < 0 ∨ 9 < s.stage then 1 else if afterC s.name s.after ≠ 0 then afterC s.name s.after
  else if (isSig s.all && isSig s.none) = false then 1 else if meetsB s.all s.none = true then 7 else if 64 < s.code.length then 5
  else if s.code.all (goodOp s.code.length) = true then 0 else 4

set_option maxRecDepth 20000 in
set_option maxHeartbeats 8000000 in
theorem craft_check (s : VSys) (pa : Option Addr) (ca : Nat) (pc : Option Addr) (cc : Nat) (w : World) (h1 : s.all < 4294967296) (h2 : s.none < 4294967296) (hca : s.after.length ≤ ca) (ha : TP w w.heap.size pa s.after) (hc : VP w w.heap.size pc s.code) :
    Calls Tryd.prog 14 #[SysV s pa ca pc cc] w fun r w' => r = .returned (.int .i64 (sysC s : Int)) ∧ Keep (fun _ => False) w w' := by
  obtain ⟨w1, hw1, hb1, hs1, hk1⟩ := box1 w (SysC s pa ca pc cc) 27
  have HK1 := hid hk1
  have HB1 := hid hb1
  have HA : Hid (TP w1 w1.heap.size pa s.after) := hid (TP.mono (TP.low ha (Low.keep0 hk1)) hk1.size)
  have HV : Hid (VP w1 w1.heap.size pc s.code) := hid (VP.mono (VP.low hc (Low.keep0 hk1)) hk1.size)
  have HCA := hid hca; have H1 := hid h1; have H2 := hid h2
  have HR : Hid (sysC s = if nameB s.name = false then 4 else if s.stage < 0 ∨ 9 < s.stage then 1 else if afterC s.name s.after ≠ 0 then afterC s.name s.after
    else if (isSig s.all && isSig s.none) = false then 1 else if meetsB s.all s.none = true then 7 else if 64 < s.code.length then 5
    else if s.code.all (goodOp s.code.length) = true then 0 else 4) := hid rfl
  generalize sysC s = R at *
  clear hb1 hs1 hk1 ha hc hca h1 h2
  have HC : Hid (∀ wy, Keep (fun _ => False) w1 wy → wy.cell? ⟨w.heap.size, 0, none⟩ = some (.string s.name) ∧ wy.cell? ⟨w.heap.size, 1, none⟩ = some (.int .i64 s.stage) ∧ wy.cell? ⟨w.heap.size, 2, none⟩ = some (.slice pa s.after.length ca) ∧ wy.cell? ⟨w.heap.size, 3, none⟩ = some (.int .u32 (s.all : Int)) ∧ wy.cell? ⟨w.heap.size, 4, none⟩ = some (.int .u32 (s.none : Int)) ∧ wy.cell? ⟨w.heap.size, 5, none⟩ = some (.slice pc s.code.length cc)) := hid (fun wy hk =>
    ⟨cell_of (hk.get HB1.out id) (by rfl), cell_of (hk.get HB1.out id) (by rfl), cell_of (hk.get HB1.out id) (by rfl), cell_of (hk.get HB1.out id) (by rfl), cell_of (hk.get HB1.out id) (by rfl), cell_of (hk.get HB1.out id) (by rfl)⟩)
  go_enter Tryd.func14, Tryd.ntmps14
  go_upto_block 0 with fail
  rw [← hw1]
  clear hw1
  generalize w.heap.size = sb at *
  obtain ⟨c0, c1, c2, c3, c4, c5⟩ := HC.out _ (Keep.refl _ _)
  go_wp2_with fail
  refine (is_name s.name _).mono ?_
  rintro r w_ ⟨rfl, rfl⟩
  cases hnb : nameB s.name
  · have G : Hid (R = 4) := hid (by rw [HR.out, if_pos hnb])
    clear hnb
    go_wp2
    go_ret
    exact ⟨by rw [G.out]; rfl, HK1.out⟩
  have HR1 : Hid (R = if s.stage < 0 ∨ 9 < s.stage then 1 else if afterC s.name s.after ≠ 0 then afterC s.name s.after
    else if (isSig s.all && isSig s.none) = false then 1 else if meetsB s.all s.none = true then 7 else if 64 < s.code.length then 5
    else if s.code.all (goodOp s.code.length) = true then 0 else 4) := hid (by rw [HR.out, if_neg (by rw [hnb]; simp)])
  clear hnb HR
  by_cases hs0 : s.stage < 0
  · have e1 : decide (s.stage < 0) = true := decide_eq_true hs0
    have G : Hid (R = 1) := hid (by rw [HR1.out, if_pos (.inl hs0)])
    go_wp2
    go_ret
    exact ⟨by rw [G.out]; rfl, HK1.out⟩
  have e1 : decide (s.stage < 0) = false := decide_eq_false hs0
  by_cases hs9 : 9 < s.stage
  · have e2 : decide (9 < s.stage) = true := decide_eq_true hs9
    have G : Hid (R = 1) := hid (by rw [HR1.out, if_pos (.inr hs9)])
    go_wp2
    go_ret
    exact ⟨by rw [G.out]; rfl, HK1.out⟩
  have e2 : decide (9 < s.stage) = false := decide_eq_false hs9
  have HR2 : Hid (R = if afterC s.name s.after ≠ 0 then afterC s.name s.after
    else if (isSig s.all && isSig s.none) = false then 1 else if meetsB s.all s.none = true then 7 else if 64 < s.code.length then 5
    else if s.code.all (goodOp s.code.length) = true then 0 else 4) := hid (by rw [HR1.out, if_neg (by omega)])
  clear HR1 hs0 hs9
  go_wp2_with fail
  refine (sys_after s pa ca pc cc _ HCA.out HA.out).mono ?_
  rintro r w2 ⟨rfl, hk2⟩
  have HK2 := hid hk2
  clear hk2 c0 c1 c2 c3 c4 c5 e1 e2
  obtain ⟨c0, c1, c2, c3, c4, c5⟩ := HC.out _ HK2.out
  generalize afterC s.name s.after = z at *
  by_cases hz : z = 0
  rotate_left
  · have g1 : ((z : Int) != 0) = true := by rw [bne, beq_eq_false_iff_ne.2 (show (z : Int) ≠ 0 by omega)]; rfl
    have g2 : (z != 0) = true := by rw [bne, beq_eq_false_iff_ne.2 hz]; rfl
    have G : Hid (R = z) := hid (by rw [HR2.out, if_pos hz])
    go_wp2
    go_ret
    exact ⟨by rw [G.out]; rfl, HK1.out.trans HK2.out⟩
  subst hz
  have HR3 : Hid (R = if (isSig s.all && isSig s.none) = false then 1 else if meetsB s.all s.none = true then 7 else if 64 < s.code.length then 5
    else if s.code.all (goodOp s.code.length) = true then 0 else 4) := hid (by rw [HR2.out, if_neg (by simp)])
  clear HR2
  go_wp2_with fail
  refine (sig_is s.all H1.out _).mono ?_
  rintro r w_ ⟨rfl, rfl⟩
  cases hi1 : isSig s.all
  · have G : Hid (R = 1) := hid (by rw [HR3.out, if_pos (by rw [hi1]; rfl)])
    clear hi1
    go_wp2
    go_ret
    exact ⟨by rw [G.out]; rfl, HK1.out.trans HK2.out⟩
  go_wp2_with fail
  refine (sig_is s.none H2.out _).mono ?_
  rintro r w_ ⟨rfl, rfl⟩
  cases hi2 : isSig s.none
  · have G : Hid (R = 1) := hid (by rw [HR3.out, if_pos (by rw [hi1, hi2]; rfl)])
    clear hi1 hi2
    go_wp2
    go_ret
    exact ⟨by rw [G.out]; rfl, HK1.out.trans HK2.out⟩
  have HR4 : Hid (R = if meetsB s.all s.none = true then 7 else if 64 < s.code.length then 5
    else if s.code.all (goodOp s.code.length) = true then 0 else 4) := hid (by rw [HR3.out, if_neg (by rw [hi1, hi2]; simp)])
  clear HR3 hi1 hi2
  go_wp2_with fail
  refine (sig_meets s.all s.none H1.out H2.out _).mono ?_
  rintro r w_ ⟨rfl, rfl⟩
  cases hm : meetsB s.all s.none
  rotate_left
  · have G : Hid (R = 7) := hid (by rw [HR4.out, if_pos hm])
    clear hm
    go_wp2
    go_ret
    exact ⟨by rw [G.out]; rfl, HK1.out.trans HK2.out⟩
  have HR5 : Hid (R = if 64 < s.code.length then 5 else if s.code.all (goodOp s.code.length) = true then 0 else 4) := hid (by rw [HR4.out, if_neg (by rw [hm]; simp)])
  clear HR4 hm
  by_cases hl : 64 < s.code.length
  · have g1 : decide ((64 : Int) < (s.code.length : Int)) = true := decide_eq_true (by omega)
    have g2 : decide (64 < s.code.length) = true := decide_eq_true hl
    have G : Hid (R = 5) := hid (by rw [HR5.out, if_pos hl])
    go_wp2
    go_ret
    exact ⟨by rw [G.out]; rfl, HK1.out.trans HK2.out⟩
  have g1 : decide ((64 : Int) < (s.code.length : Int)) = false := decide_eq_false (by omega)
  have g2 : decide (64 < s.code.length) = false := decide_eq_false hl
  have HR6 : Hid (R = if s.code.all (goodOp s.code.length) = true then 0 else 4) := hid (by rw [HR5.out, if_neg hl])
  clear HR5
  have HB := hid (bad_ops s.code s.code.length cc sb pc pc cc w2 (by omega) (VP.mono (VP.low HV.out (Low.keep0 HK2.out)) HK2.out.size) c5)
  go_wp2_with fail
  refine HB.out.mono ?_
  rintro r w3 ⟨rfl, hk3⟩
  have HK3 := hid ((HK1.out.trans HK2.out).trans hk3)
  clear hk3
  cases hg : s.code.all (goodOp s.code.length)
  · have G : Hid (R = 4) := hid (by rw [HR6.out, hg]; rfl)
    clear hg
    go_wp2
    go_ret
    exact ⟨by rw [G.out]; rfl, HK3.out⟩
  · have G : Hid (R = 0) := hid (by rw [HR6.out, hg]; rfl)
    clear hg
    go_wp2
    go_ret
    exact ⟨by rw [G.out]; rfl, HK3.out⟩
end Go.Proofs.YtbnhdmalkmcalaaDoor

namespace Go.Proofs.Wide
/-- A great number: its sign and its size's two words. -/
structure WI where
  neg : Bool
  hi : Nat
  lo : Nat
def WI.mag (x : WI) : Nat := x.hi * 18446744073709551616 + x.lo
def WI.val (x : WI) : Int := if x.neg = true then -(x.mag : Int) else (x.mag : Int)
/-- Whether a number is in form. -/
def WI.form (x : WI) : Bool := decide (x.hi < 9223372036854775808) && (!x.neg || decide (x.mag ≠ 0))
def WI.fit (x : WI) : Prop := x.hi < 18446744073709551616 ∧ x.lo < 18446744073709551616
def cmpN (a b : Nat) : Int := if b < a then 1 else if a = b then 0 else -1
def cmpI (a b : Int) : Int := if b < a then 1 else if a = b then 0 else -1
/-- Which of two numbers is greater; nought where one isn't in form. -/
def cmpW (x y : WI) : Int := if x.form = true ∧ y.form = true then cmpI x.val y.val else 0
end Go.Proofs.Wide
namespace Go.Proofs.YtbnhdmalkmcalaaDoor
open Go.RowKit Go.Proofs.Heap Go.Proofs.Wide

abbrev WV (x : WI) : Value := .agg #[.bool x.neg, .int .u64 (x.hi : Int), .int .u64 (x.lo : Int)]
abbrev WC (x : WI) : Array Value := #[.bool x.neg, .int .u64 (x.hi : Int), .int .u64 (x.lo : Int)]

theorem wraps64 (n : Int) (h₀ : 0 ≤ n) (h₁ : n < 2 ^ 64) : IntKind.u64.wrap n = n := by
  have : IntKind.u64.wrap n = n % 18446744073709551616 := by simp [IntKind.wrap, IntKind.bits, IntKind.signed]
  omega
theorem or_zero (a b : Nat) (ha : a < 18446744073709551616) (hb : b < 18446744073709551616) : ∃ z : Nat, bits .or .u64 (a : Int) (b : Int) = (z : Int) ∧ (z = 0 ↔ a = 0 ∧ b = 0) := by
  refine ⟨a ||| b, (bits_nat .u64 64 (by decide) wraps64 a b ha hb).2, ?_⟩
  exact Nat.or_eq_zero_iff

set_option maxRecDepth 20000 in
theorem w_form (x : WI) (hx : x.fit) (w : World) : Calls Tryd.prog 82 #[WV x] w fun r w' => r = .returned (.bool x.form) ∧ Keep (fun _ => False) w w' := by
  obtain ⟨ng, hi, lo⟩ := x
  obtain ⟨h1, h2⟩ := hx
  simp only at h1 h2
  obtain ⟨z, hz, hz0⟩ := or_zero hi lo h1 h2
  have HK := hid ((Keep.refl (fun _ => False) w).alloc (.cells #[.bool ng, .int .u64 (hi : Int), .int .u64 (lo : Int)] 65))
  have HF : Hid (WI.form ⟨ng, hi, lo⟩ = (decide (hi < 9223372036854775808) && (!ng || decide (z ≠ 0)))) := hid (by
    unfold WI.form WI.mag
    have e : decide (hi * 18446744073709551616 + lo ≠ 0) = decide (z ≠ 0) := by
      have : (hi * 18446744073709551616 + lo ≠ 0) ↔ z ≠ 0 := by rw [Ne, Ne, hz0]; omega
      simp only [this]
    simp only [e])
  clear hz0
  go_enter Tryd.func82, Tryd.ntmps82
  by_cases g : hi < 9223372036854775808
  · have g1 : decide ((hi : Int) < 9223372036854775808) = true := decide_eq_true (by omega)
    cases ng
    · go_wp2
      go_ret
      exact ⟨by rw [HF.out]; simp [g], HK.out⟩
    · by_cases hz1 : z = 0
      · have g2 : ((z : Int) == 0) = true := beq_iff_eq.2 (by omega)
        have g3 : ((z : Int) != 0) = false := by rw [bne, g2]; rfl
        go_wp2
        go_ret
        exact ⟨by rw [HF.out]; simp [g, hz1], HK.out⟩
      · have g2 : ((z : Int) == 0) = false := beq_eq_false_iff_ne.2 (by omega)
        have g3 : ((z : Int) != 0) = true := by rw [bne, g2]; rfl
        go_wp2
        go_ret
        exact ⟨by rw [HF.out]; simp [g, hz1], HK.out⟩
  · have g1 : decide ((hi : Int) < 9223372036854775808) = false := decide_eq_false (by omega)
    go_wp2
    go_ret
    exact ⟨by rw [HF.out]; simp [g], HK.out⟩

set_option maxRecDepth 20000 in
theorem w_size (x y : WI) (hx : x.fit) (hy : y.fit) (w : World) : Calls Tryd.prog 87 #[WV x, WV y] w fun r w' => r = .returned (.int .i64 (cmpN x.mag y.mag)) ∧ Keep (fun _ => False) w w' := by
  obtain ⟨xn, xh, xl⟩ := x
  obtain ⟨yn, yh, yl⟩ := y
  obtain ⟨h1, h2⟩ := hx
  obtain ⟨h3, h4⟩ := hy
  simp only at h1 h2 h3 h4
  have HK := hid (((Keep.refl (fun _ => False) w).alloc (.cells #[.bool xn, .int .u64 (xh : Int), .int .u64 (xl : Int)] 65)).alloc (.cells #[.bool yn, .int .u64 (yh : Int), .int .u64 (yl : Int)] 65))
  have HC : Hid (cmpN (WI.mag ⟨xn, xh, xl⟩) (WI.mag ⟨yn, yh, yl⟩) = if yh < xh ∨ (xh = yh ∧ yl < xl) then 1 else if xh = yh ∧ xl = yl then 0 else -1) := hid (by
    unfold cmpN WI.mag
    simp only
    by_cases a : yh < xh ∨ (xh = yh ∧ yl < xl)
    · rw [if_pos a, if_pos (by omega)]
    · rw [if_neg a, if_neg (by omega)]
      by_cases b : xh = yh ∧ xl = yl
      · rw [if_pos b, if_pos (by omega)]
      · rw [if_neg b, if_neg (by omega)])
  go_enter Tryd.func87, Tryd.ntmps87
  by_cases a1 : yh < xh
  · have g1 : decide ((yh : Int) < (xh : Int)) = true := decide_eq_true (by omega)
    have g2 : decide (yh < xh) = true := decide_eq_true a1
    have G := hid (HC.out.trans (if_pos (.inl a1)))
    clear HC
    go_wp2
    go_ret
    exact ⟨by rw [G.out]; rfl, HK.out⟩
  have g1 : decide ((yh : Int) < (xh : Int)) = false := decide_eq_false (by omega)
  have g2 : decide (yh < xh) = false := decide_eq_false a1
  by_cases a2 : xh = yh
  · have g3 : ((xh : Int) == (yh : Int)) = true := beq_iff_eq.2 (by omega)
    have g4 : (xh == yh) = true := beq_iff_eq.2 a2
    by_cases a3 : yl < xl
    · have g5 : decide ((yl : Int) < (xl : Int)) = true := decide_eq_true (by omega)
      have g6 : decide (yl < xl) = true := decide_eq_true a3
      have G := hid (HC.out.trans (if_pos (.inr ⟨a2, a3⟩)))
      clear HC a2
      go_wp2
      go_ret
      exact ⟨by rw [G.out]; rfl, HK.out⟩
    have g5 : decide ((yl : Int) < (xl : Int)) = false := decide_eq_false (by omega)
    have g6 : decide (yl < xl) = false := decide_eq_false a3
    by_cases a4 : xl = yl
    · have g7 : ((xl : Int) == (yl : Int)) = true := beq_iff_eq.2 (by omega)
      have g8 : (xl == yl) = true := beq_iff_eq.2 a4
      have G := hid (HC.out.trans ((if_neg (by omega)).trans (if_pos ⟨a2, a4⟩)))
      clear HC a2 a4
      go_wp2
      go_ret
      exact ⟨by rw [G.out]; rfl, HK.out⟩
    · have g7 : ((xl : Int) == (yl : Int)) = false := beq_eq_false_iff_ne.2 (by omega)
      have g8 : (xl == yl) = false := beq_eq_false_iff_ne.2 a4
      have G := hid (HC.out.trans ((if_neg (by omega)).trans (if_neg (by omega))))
      clear HC a2 a4
      go_wp2
      go_ret
      exact ⟨by rw [G.out]; rfl, HK.out⟩
  · have g3 : ((xh : Int) == (yh : Int)) = false := beq_eq_false_iff_ne.2 (by omega)
    have g4 : (xh == yh) = false := beq_eq_false_iff_ne.2 a2
    have G := hid (HC.out.trans ((if_neg (by omega)).trans (if_neg (by omega))))
    clear HC a2
    go_wp2
    go_ret
    exact ⟨by rw [G.out]; rfl, HK.out⟩

theorem form_zero {x : WI} (h : x.form = true) (hn : x.neg = true) : x.mag ≠ 0 := by
  unfold WI.form at h
  rw [hn] at h
  simp at h
  exact h.2

set_option maxRecDepth 20000 in
set_option maxHeartbeats 1000000 in
theorem w_cmp (x y : WI) (hx : x.fit) (hy : y.fit) (w : World) : Calls Tryd.prog 120 #[WV x, WV y] w fun r w' => r = .returned (.int .i64 (cmpW x y)) ∧ Keep (fun _ => False) w w' := by
  have hk0 : Keep (fun _ => False) w ((w.alloc (.cells (WC x) 65)).alloc (.cells (WC y) 65)) := ((Keep.refl (fun _ => False) w).alloc _).alloc _
  have hb1 : ((w.alloc (.cells (WC x) 65)).alloc (.cells (WC y) 65)).heap[w.heap.size]? = some (.cells (WC x) 65 (0, 0)) := (((Keep.refl (fun _ => False) _).alloc _).get (heap_alloc_new w _) (fun h => h))
  have hb2 : ((w.alloc (.cells (WC x) 65)).alloc (.cells (WC y) 65)).heap[w.heap.size + 1]? = some (.cells (WC y) 65 (0, 0)) := by
    have := heap_alloc_new (w.alloc (.cells (WC x) 65)) (.cells (WC y) 65)
    simpa using this
  have HK0 := hid hk0; have HB1 := hid hb1; have HB2 := hid hb2
  clear hk0 hb1 hb2
  go_enter Tryd.func120, Tryd.ntmps120
  go_upto_region 1 with fail
  generalize (w.alloc (.cells (WC x) 65)).alloc (.cells (WC y) 65) = w0 at *
  generalize w.heap.size = sb at *
  have facts : ∀ wy, Keep (fun _ => False) w0 wy → (wy.cell? ⟨sb, 0, none⟩ = some (.bool x.neg) ∧ wy.cell? ⟨sb, 1, none⟩ = some (.int .u64 (x.hi : Int)) ∧ wy.cell? ⟨sb, 2, none⟩ = some (.int .u64 (x.lo : Int))) ∧ (wy.cell? ⟨sb + 1, 0, none⟩ = some (.bool y.neg) ∧ wy.cell? ⟨sb + 1, 1, none⟩ = some (.int .u64 (y.hi : Int)) ∧ wy.cell? ⟨sb + 1, 2, none⟩ = some (.int .u64 (y.lo : Int))) := fun wy hk =>
    ⟨⟨cell_of (hk.get HB1.out (fun h => h)) (by rfl), cell_of (hk.get HB1.out (fun h => h)) (by rfl), cell_of (hk.get HB1.out (fun h => h)) (by rfl)⟩, ⟨cell_of (hk.get HB2.out (fun h => h)) (by rfl), cell_of (hk.get HB2.out (fun h => h)) (by rfl), cell_of (hk.get HB2.out (fun h => h)) (by rfl)⟩⟩
  have FA := hid facts
  obtain ⟨⟨a0, a1, a2⟩, b0, b1, b2⟩ := facts w0 (Keep.refl _ _)
  clear facts
  have HX := hid hx; have HY := hid hy
  clear hx hy
  go_wp2_with fail
  refine (w_form x HX.out _).mono ?_
  rintro r w1 ⟨rfl, hk1⟩
  have HK1 := hid hk1
  clear hk1 a0 a1 a2 b0 b1 b2
  obtain ⟨⟨a0, a1, a2⟩, b0, b1, b2⟩ := FA.out w1 HK1.out
  cases fx : x.form
  · have G : Hid (cmpW x y = 0) := hid (if_neg (by rw [fx]; simp))
    clear fx
    go_wp2
    go_ret
    exact ⟨by rw [G.out]; rfl, HK0.out.trans HK1.out⟩
  go_wp2_with fail
  refine (w_form y HY.out _).mono ?_
  rintro r w2 ⟨rfl, hk2⟩
  have HK2 := hid (HK1.out.trans hk2)
  clear hk2 a0 a1 a2 b0 b1 b2
  obtain ⟨⟨a0, a1, a2⟩, b0, b1, b2⟩ := FA.out w2 HK2.out
  cases fy : y.form
  · have G : Hid (cmpW x y = 0) := hid (if_neg (by rw [fy]; simp))
    clear fx fy
    go_wp2
    go_ret
    exact ⟨by rw [G.out]; rfl, HK0.out.trans HK2.out⟩
  have FX := hid fx; have FY := hid fy
  clear fx fy
  obtain ⟨xn, xh, xl⟩ := x
  obtain ⟨yn, yh, yl⟩ := y
  simp only at a0 a1 a2 b0 b1 b2
  cases xn <;> cases yn
  · have G : Hid (cmpI (WI.val ⟨false, xh, xl⟩) (WI.val ⟨false, yh, yl⟩) = cmpN (WI.mag ⟨false, xh, xl⟩) (WI.mag ⟨false, yh, yl⟩)) := hid (by
      unfold cmpI cmpN WI.val
      simp only [Bool.false_eq_true, if_false]
      generalize WI.mag ⟨false, xh, xl⟩ = a
      generalize WI.mag ⟨false, yh, yl⟩ = b
      by_cases c1 : b < a
      · rw [if_pos (by omega), if_pos c1]
      · rw [if_neg (by omega), if_neg c1]
        by_cases c2 : a = b
        · rw [if_pos (by omega), if_pos c2]
        · rw [if_neg (by omega), if_neg c2])
    go_wp2_with fail
    refine (w_size ⟨false, xh, xl⟩ ⟨false, yh, yl⟩ HX.out HY.out _).mono ?_
    rintro r w3 ⟨rfl, hk3⟩
    have HK3 := hid (HK2.out.trans hk3)
    clear hk3
    go_wp2
    go_ret
    exact ⟨by rw [cmpW, if_pos ⟨FX.out, FY.out⟩, G.out]; rfl, HK0.out.trans HK3.out⟩
  · have G : Hid (cmpI (WI.val ⟨false, xh, xl⟩) (WI.val ⟨true, yh, yl⟩) = 1) := hid (by
      have h := form_zero FY.out rfl
      unfold cmpI WI.val
      simp only [Bool.false_eq_true, if_false, if_true]
      generalize WI.mag ⟨false, xh, xl⟩ = a
      generalize WI.mag ⟨true, yh, yl⟩ = b at h ⊢
      rw [if_pos (by omega)])
    go_wp2
    go_ret
    exact ⟨by rw [cmpW, if_pos ⟨FX.out, FY.out⟩, G.out]; rfl, HK0.out.trans HK2.out⟩
  · have G : Hid (cmpI (WI.val ⟨true, xh, xl⟩) (WI.val ⟨false, yh, yl⟩) = -1) := hid (by
      have h := form_zero FX.out rfl
      unfold cmpI WI.val
      simp only [Bool.false_eq_true, if_false, if_true]
      generalize WI.mag ⟨true, xh, xl⟩ = a at h ⊢
      generalize WI.mag ⟨false, yh, yl⟩ = b
      rw [if_neg (by omega), if_neg (by omega)])
    go_wp2
    go_ret
    exact ⟨by rw [cmpW, if_pos ⟨FX.out, FY.out⟩, G.out]; rfl, HK0.out.trans HK2.out⟩
  · have G : Hid (cmpI (WI.val ⟨true, xh, xl⟩) (WI.val ⟨true, yh, yl⟩) = cmpN (WI.mag ⟨true, yh, yl⟩) (WI.mag ⟨true, xh, xl⟩)) := hid (by
      unfold cmpI cmpN WI.val
      simp only [if_true]
      generalize WI.mag ⟨true, xh, xl⟩ = a
      generalize WI.mag ⟨true, yh, yl⟩ = b
      by_cases c1 : a < b
      · rw [if_pos (by omega), if_pos c1]
      · rw [if_neg (by omega), if_neg c1]
        by_cases c2 : a = b
        · rw [if_pos (by omega), if_pos (by omega)]
        · rw [if_neg (by omega), if_neg (by omega)])
    go_wp2_with fail
    refine (w_size ⟨true, yh, yl⟩ ⟨true, xh, xl⟩ HY.out HX.out _).mono ?_
    rintro r w3 ⟨rfl, hk3⟩
    have HK3 := hid (HK2.out.trans hk3)
    clear hk3
    go_wp2
    go_ret
    exact ⟨by rw [cmpW, if_pos ⟨FX.out, FY.out⟩, G.out]; rfl, HK0.out.trans HK3.out⟩
end Go.Proofs.YtbnhdmalkmcalaaDoor
