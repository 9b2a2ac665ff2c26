/- What is proved: plain laws of what is unlike in two schemas: definitions, and rows that ascend; no program. -/
import Derived.Test.YtdekdefjfaoclaaDoorFound
import Derived.Test.YtdekdefjfaoclaaDoorSchSame
namespace Go.Proofs.Sch
open Go.RowKit Go.Proofs.Heap

/-- A change. -/
structure Chg where
  kind : Int
  comp : Int
  field : ByteArray
theorem Chg.ext_iff' (a b : Chg) : (a.kind = b.kind ∧ a.comp = b.comp ∧ a.field = b.field) ↔ a = b := by
  cases a; cases b; simp
instance : DecidableEq Chg := fun a b => decidable_of_iff _ (Chg.ext_iff' a b)
def ccl3 (x : Chg) : List Value := [.int .i64 x.kind, .int .i64 x.comp, .string x.field]
theorem ccl3_len (x : Chg) : (ccl3 x).length = 3 := rfl
theorem ccl3_one (x : Chg) : ∀ u ∈ ccl3 x, u.oneCell' = true := by
  intro u hu
  simp only [ccl3, List.mem_cons, List.not_mem_nil, or_false] at hu
  rcases hu with rfl | rfl | rfl <;> rfl
abbrev noN : ByteArray := ⟨#[]⟩
end Go.Proofs.Sch
namespace Go.Proofs.YtdekdefjfaoclaaDoor
open Go.RowKit Go.Proofs.Heap Go.Proofs.Sch

abbrev nameI (gs : List Fld) (s : ByteArray) : Int := idxI (fun f : Fld => decide (f.name = s)) gs
/-- Whether there is a field of a name. -/
def hasF (gs : List Fld) (s : ByteArray) : Bool := decide (0 ≤ nameI gs s)
def missL (a b : List Fld) (kind id : Int) : List Chg := (a.filter (fun f => !hasF b f.name)).map (fun f => ⟨kind, id, f.name⟩)
/-- Whether the other one has a field of that name, and another one. -/
def retB (b : List Fld) (f : Fld) : Bool := match b[(nameI b f.name).toNat]? with
  | some g => hasF b f.name && !decide (g = f)
  | none => false
def retyL (a b : List Fld) (id : Int) : List Chg := (a.filter (retB b)).map (fun f => ⟨6, id, f.name⟩)
def comL (a b : List Fld) : List ByteArray := (a.filter (fun f => hasF b f.name)).map Fld.name
def compL (a b : Cmp) : List Chg :=
  (if a.name = b.name then [] else [⟨3, a.id, noN⟩]) ++ missL a.fs b.fs 4 a.id ++ missL b.fs a.fs 5 b.id ++ retyL a.fs b.fs a.id ++ (if comL a.fs b.fs = comL b.fs a.fs then [] else [⟨7, a.id, noN⟩])
abbrev inC (cs : List Cmp) (id : Int) : Bool := cs.any (fun c => decide (c.id = id))
def stepL (ca cb : List Cmp) (id : Int) : List Chg :=
  if inC ca id = true then (if inC cb id = true then compL (foundC ca id) (foundC cb id) else [⟨2, id, noN⟩]) else (if inC cb id = true then [⟨1, id, noN⟩] else [])
/-- All changes of the first n ids. -/
def ofN (ca cb : List Cmp) : Nat → List Chg
  | 0 => []
  | n + 1 => ofN ca cb n ++ stepL ca cb ((n : Int) + 1)
def ofL (ca cb : List Cmp) : List Chg := ofN ca cb 24
/-- The ids that both have. -/
def keptL (ca cb : List Cmp) : List Int := (ca.filter (fun c => inC cb c.id)).map Cmp.id
def diffE (va : Int) (ca : List Cmp) (vb : Int) (cb : List Cmp) : Nat := if checkC va ca = 0 then checkC vb cb else checkC va ca

theorem has_mem {gs : List Fld} {s : ByteArray} : hasF gs s = true ↔ ∃ g ∈ gs, g.name = s := by
  unfold hasF
  rcases idx_cases (fun f : Fld => decide (f.name = s)) gs with h | ⟨k, g, h1, h2, h3, _⟩
  · have := idx_any_no _ _ h
    rw [List.any_eq_false] at this
    constructor
    · intro h0; have := of_decide_eq_true h0; unfold nameI at this; omega
    · rintro ⟨g, hg, e⟩
      exact absurd (decide_eq_true e) (this g hg)
  · constructor
    · intro _; exact ⟨g, List.mem_of_getElem? h2, of_decide_eq_true h3⟩
    · intro _; refine decide_eq_true ?_; unfold nameI; omega
theorem in_mem {cs : List Cmp} {id : Int} : inC cs id = true ↔ ∃ c ∈ cs, c.id = id := by
  unfold inC
  rw [List.any_eq_true]
  exact ⟨fun ⟨c, h1, h2⟩ => ⟨c, h1, of_decide_eq_true h2⟩, fun ⟨c, h1, h2⟩ => ⟨c, h1, decide_eq_true h2⟩⟩

/-- Of two rows that ascend, of the same things, one is the other. -/
theorem sorted_uniq {α : Type} (R : α → α → Prop) (asym : ∀ a b, R a b → ¬ R b a) : ∀ l m : List α, l.Pairwise R → m.Pairwise R → (∀ x, x ∈ l ↔ x ∈ m) → l = m
  | [], [], _, _, _ => rfl
  | [], y :: m, _, _, h => by have := (h y).2 (List.mem_cons_self ..); simp at this
  | x :: l, [], _, _, h => by have := (h x).1 (List.mem_cons_self ..); simp at this
  | x :: l, y :: m, h1, h2, h => by
    obtain ⟨a1, a2⟩ := List.pairwise_cons.1 h1
    obtain ⟨b1, b2⟩ := List.pairwise_cons.1 h2
    have hxy : x = y := by
      rcases List.mem_cons.1 ((h x).1 (List.mem_cons_self ..)) with e | hx
      · exact e
      · rcases List.mem_cons.1 ((h y).2 (List.mem_cons_self ..)) with e | hy
        · exact e.symm
        · exact absurd (a1 y hy) (asym _ _ (b1 x hx))
    subst hxy
    congr 1
    refine sorted_uniq R asym l m a2 b2 fun z => ⟨fun hz => ?_, fun hz => ?_⟩
    · rcases List.mem_cons.1 ((h z).1 (List.mem_cons_of_mem _ hz)) with e | hm
      · subst e; exact absurd (a1 z hz) (asym _ _ (a1 z hz))
      · exact hm
    · rcases List.mem_cons.1 ((h z).2 (List.mem_cons_of_mem _ hz)) with e | hm
      · subst e; exact absurd (b1 z hz) (asym _ _ (b1 z hz))
      · exact hm

abbrev NamesOk (fs : List Fld) : Prop := fs.Pairwise (fun a b => a.name ≠ b.name)
theorem GoodS.names {v : Int} {cs : List Cmp} (h : GoodS v cs) {c : Cmp} (hc : c ∈ cs) : NamesOk c.fs := (fldBad_iff _ _ (fieldsC_zero (h.2.1 c hc).2.2.2.2).1).2
theorem foundC_mem {cs : List Cmp} {id : Int} (h : inC cs id = true) : foundC cs id ∈ cs ∧ (foundC cs id).id = id := by
  unfold foundC
  rcases idx_cases (fun c : Cmp => decide (c.id = id)) cs with e | ⟨k, c, h1, h2, h3, _⟩
  · have := idx_any_no _ _ e
    exact absurd (this.symm.trans h) (by simp)
  · rw [h1, if_neg (by omega), Int.toNat_natCast, h2]
    exact ⟨List.mem_of_getElem? h2, of_decide_eq_true h3⟩
theorem nameI_lt {gs : List Fld} (h : NamesOk gs) : (gs.map (fun g => nameI gs g.name)).Pairwise (· < ·) := by
  have hi : ∀ k (hk : k < gs.length), nameI gs (gs[k]).name = (k : Int) := fun k hk => pair_idx Fld.name h (List.getElem?_eq_getElem hk)
  rw [List.pairwise_iff_getElem]
  intro i j hi' hj hij
  simp only [List.length_map] at hi' hj
  simp only [List.getElem_map]
  rw [hi i hi', hi j hj]
  omega

theorem com_mem {a b : List Fld} {s : ByteArray} : s ∈ comL a b ↔ hasF a s = true ∧ hasF b s = true := by
  unfold comL
  rw [List.mem_map]
  constructor
  · rintro ⟨f, hf, rfl⟩
    obtain ⟨h1, h2⟩ := List.mem_filter.1 hf
    exact ⟨has_mem.2 ⟨f, h1, rfl⟩, h2⟩
  · rintro ⟨h1, h2⟩
    obtain ⟨f, hf, rfl⟩ := has_mem.1 h1
    exact ⟨f, List.mem_filter.2 ⟨hf, h2⟩, rfl⟩
theorem com_up {a b : List Fld} (hb : NamesOk b) : (comL b a).Pairwise (fun s t => nameI b s < nameI b t) := by
  unfold comL
  rw [List.pairwise_map]
  have := nameI_lt hb
  rw [List.pairwise_map] at this
  exact this.sublist List.filter_sublist
/-- What both have stands in one order just if the places ascend. -/
theorem com_same {a b : List Fld} (hb : NamesOk b) : comL a b = comL b a ↔ (comL a b).Pairwise (fun s t => nameI b s < nameI b t) := by
  constructor
  · intro e; rw [e]; exact com_up hb
  · intro h
    refine sorted_uniq _ (fun s t h1 h2 => by omega) _ _ h (com_up hb) fun s => ?_
    rw [com_mem, com_mem]
    exact ⟨fun ⟨h1, h2⟩ => ⟨h2, h1⟩, fun ⟨h1, h2⟩ => ⟨h2, h1⟩⟩

/-- The reference's walk: whether a place goes back. -/
def mvRun (b : List Fld) : List Fld → Int → Bool → Bool
  | [], _, m => m
  | f :: r, last, m => if nameI b f.name < 0 then mvRun b r last m else mvRun b r (nameI b f.name) (m || decide (nameI b f.name < last))
theorem mvRun_true (b : List Fld) : ∀ (r : List Fld) (last : Int), mvRun b r last true = true
  | [], _ => rfl
  | f :: r, last => by
    unfold mvRun
    split
    · exact mvRun_true b r _
    · rw [Bool.true_or]; exact mvRun_true b r _
theorem mvRun_iff (b : List Fld) : ∀ (r : List Fld) (last : Int), mvRun b r last false = false ↔ (∀ s ∈ comL r b, last ≤ nameI b s) ∧ (comL r b).Pairwise (fun s t => nameI b s ≤ nameI b t)
  | [], last => by simp [mvRun, comL]
  | f :: r, last => by
    unfold mvRun
    by_cases h : nameI b f.name < 0
    · rw [if_pos h, mvRun_iff b r last]
      have : comL (f :: r) b = comL r b := by
        unfold comL
        rw [List.filter_cons, if_neg (by unfold hasF; simpa using h)]
      rw [this]
    · rw [if_neg h, Bool.false_or]
      have : comL (f :: r) b = f.name :: comL r b := by
        unfold comL
        rw [List.filter_cons, if_pos (by unfold hasF; simpa using h)]
        rfl
      rw [this, List.pairwise_cons]
      by_cases hl : nameI b f.name < last
      · rw [decide_eq_true hl, mvRun_true]
        refine ⟨fun h => absurd h (by simp), fun ⟨h1, _⟩ => ?_⟩
        have := h1 f.name (List.mem_cons_self ..)
        omega
      · rw [decide_eq_false hl, mvRun_iff b r _]
        constructor
        · rintro ⟨h1, h2⟩
          refine ⟨fun s hs => ?_, h1, h2⟩
          rcases List.mem_cons.1 hs with rfl | hs
          · omega
          · have := h1 s hs; omega
        · rintro ⟨h1, h2, h3⟩
          exact ⟨h2, h3⟩
theorem com_nodup {a b : List Fld} (ha : NamesOk a) : (comL a b).Pairwise (· ≠ ·) := by
  unfold comL
  rw [List.pairwise_map]
  exact List.Pairwise.sublist List.filter_sublist ha
theorem nameI_inj {b : List Fld} {s t : ByteArray} (h1 : hasF b s = true) (h : nameI b s = nameI b t) : s = t := by
  have h0 : 0 ≤ nameI b s := of_decide_eq_true h1
  rcases idx_cases (fun f : Fld => decide (f.name = s)) b with e | ⟨k, g, e1, e2, e3, _⟩
  · unfold nameI at h0; omega
  rcases idx_cases (fun f : Fld => decide (f.name = t)) b with e | ⟨k', g', f1, f2, f3, _⟩
  · unfold nameI at h h0; omega
  have : k = k' := by unfold nameI at h; omega
  subst this
  rw [e2] at f2
  injection f2 with f2
  subst f2
  exact (of_decide_eq_true e3).symm.trans (of_decide_eq_true f3)
theorem mv_same {a b : List Fld} (ha : NamesOk a) (hb : NamesOk b) : mvRun b a (-1) false = !decide (comL a b = comL b a) := by
  have h1 := mvRun_iff b a (-1)
  have h2 := com_same (a := a) hb
  have hmem : ∀ s ∈ comL a b, hasF b s = true := fun s hs => (com_mem.1 hs).2
  by_cases e : comL a b = comL b a
  · rw [decide_eq_true e]
    refine h1.2 ⟨fun s hs => ?_, (h2.1 e).imp fun h => by omega⟩
    have : 0 ≤ nameI b s := of_decide_eq_true (hmem s hs)
    omega
  · rw [decide_eq_false e]
    cases h : mvRun b a (-1) false
    · exfalso
      refine e (h2.2 ?_)
      have hp := (h1.1 h).2
      have hn := com_nodup (b := b) ha
      rw [List.pairwise_iff_getElem] at hp hn ⊢
      intro i j hi hj hij
      have g1 := hp i j hi hj hij
      have g2 := hn i j hi hj hij
      have g3 : nameI b (comL a b)[i] ≠ nameI b (comL a b)[j] := fun e => g2 (nameI_inj (hmem _ (List.getElem_mem hi)) e)
      omega
    · rfl
end Go.Proofs.YtdekdefjfaoclaaDoor
