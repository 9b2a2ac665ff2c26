/- What is proved: plain laws of the order of systems: stage by stage, the ready one of the least name first, is what the document's order is. -/
import Derived.Test.YtcbboaoakgngkaaMSchFind
import Derived.Test.YtcbboaoakgngkaaMSchFind2
import Derived.Test.YtcbboaoakgngkaaMVf8
import Derived.Test.YtcbboaoakgngkaaMRegion
import Derived.Test.YtcbboaoakgngkaaMHeap
namespace Go.Proofs.Ytcbboaoakgngkaa
open Go.RowKit Go.Proofs.Heap Go.Proofs.Sch

/-- Whether a name stands ahead of another one. -/
def ltB (s t : ByteArray) : Bool := Op.bytesLess s.data.toList t.data.toList
theorem ltB_tl (s t : ByteArray) : Op.bytesLess s.toList t.toList = ltB s t := by rw [tl_eq, tl_eq]; rfl
theorem bl_irr : ∀ a : List UInt8, Op.bytesLess a a = false
  | [] => rfl
  | x :: r => by
    have h : ¬ x < x := fun h => by rw [UInt8.lt_iff_toNat_lt] at h; omega
    simp [Op.bytesLess, bl_irr r, h]
theorem bl_cons (a b : UInt8) (x y : List UInt8) : Op.bytesLess (a :: x) (b :: y) = true ↔ a < b ∨ (a = b ∧ Op.bytesLess x y = true) := by
  rw [Op.bytesLess, Bool.or_eq_true, Bool.and_eq_true, decide_eq_true_iff, beq_iff_eq]
theorem bl_trans : ∀ {a b c : List UInt8}, Op.bytesLess a b = true → Op.bytesLess b c = true → Op.bytesLess a c = true
  | _, [], _, h, _ => by cases ‹List UInt8› <;> simp [Op.bytesLess] at h
  | _, _ :: _, [], _, h => by simp [Op.bytesLess] at h
  | [], _ :: _, _ :: _, _, _ => rfl
  | a :: x, b :: y, c :: z, h, k => by
    rw [bl_cons] at h k ⊢
    rcases h with h | ⟨rfl, h⟩
    · rcases k with k | ⟨rfl, k⟩
      · left; rw [UInt8.lt_iff_toNat_lt] at *; omega
      · exact .inl h
    · rcases k with k | ⟨rfl, k⟩
      · exact .inl k
      · exact .inr ⟨rfl, bl_trans h k⟩
theorem bl_total : ∀ {a b : List UInt8}, a ≠ b → Op.bytesLess a b = true ∨ Op.bytesLess b a = true
  | [], [], h => absurd rfl h
  | [], _ :: _, _ => .inl rfl
  | _ :: _, [], _ => .inr rfl
  | a :: x, b :: y, h => by
    rw [bl_cons, bl_cons]
    rcases Nat.lt_trichotomy a.toNat b.toNat with h1 | h1 | h1
    · exact .inl (.inl (UInt8.lt_iff_toNat_lt.2 h1))
    · have e : a = b := UInt8.toNat_inj.1 h1
      subst e
      rcases bl_total (a := x) (b := y) (fun e => h (by rw [e])) with h2 | h2
      · exact .inl (.inr ⟨rfl, h2⟩)
      · exact .inr (.inr ⟨rfl, h2⟩)
    · exact .inr (.inl (UInt8.lt_iff_toNat_lt.2 h1))
theorem ltB_irr (s : ByteArray) : ltB s s = false := bl_irr _
theorem ltB_trans {s t u : ByteArray} (h : ltB s t = true) (k : ltB t u = true) : ltB s u = true := bl_trans h k
theorem ltB_total {s t : ByteArray} (h : s ≠ t) : ltB s t = true ∨ ltB t s = true := bl_total (fun e => h (by cases s; cases t; simp at e; simp [e]))
/-- The name, the stage, and who goes ahead, of a place. -/
def nmS (l : List VSys) (i : Nat) : ByteArray := match l[i]? with
  | some s => s.name
  | none => ⟨#[]⟩
def stS (l : List VSys) (i : Nat) : Int := match l[i]? with
  | some s => s.stage
  | none => 0
def afS (l : List VSys) (i : Nat) : List ByteArray := match l[i]? with
  | some s => s.after
  | none => []
theorem nmS_at {l : List VSys} {i : Nat} {s : VSys} (h : l[i]? = some s) : nmS l i = s.name := by unfold nmS; rw [h]
theorem stS_at {l : List VSys} {i : Nat} {s : VSys} (h : l[i]? = some s) : stS l i = s.stage := by unfold stS; rw [h]
theorem afS_at {l : List VSys} {i : Nat} {s : VSys} (h : l[i]? = some s) : afS l i = s.after := by unfold afS; rw [h]
/-- The place of a name. -/
def fnS (l : List VSys) (s : ByteArray) : Int := idxI (fun x : VSys => decide (x.name = s)) l
def fdS (l : List VSys) (s : ByteArray) : Nat := (fnS l s).toNat
/-- Systems that can stand in an order. -/
structure OkS (l : List VSys) : Prop where
  uniq : ∀ i j, i < l.length → j < l.length → nmS l i = nmS l j → i = j
  has : ∀ i, i < l.length → ∀ a ∈ afS l i, ∃ j : Nat, fnS l a = (j : Int) ∧ j < l.length ∧ nmS l j = a ∧ stS l j ≤ stS l i
  stage : ∀ i, i < l.length → 0 ≤ stS l i ∧ stS l i ≤ 9
  nodup : ∀ i, i < l.length → (afS l i).Nodup
  self : ∀ i, i < l.length → nmS l i ∉ afS l i
/-- Whether a system of a stage could be next. -/
def inC (l : List VSys) (k : Int) (out : List Nat) (i : Nat) : Bool := !out.contains i && (decide (stS l i = k) && (afS l i).all (fun a => decide (stS l (fdS l a) ≠ k) || out.contains (fdS l a)))
def candsK (l : List VSys) (k : Int) (out : List Nat) : List Nat := (List.range l.length).filter (inC l k out)
def bestF (l : List VSys) (b : Option Nat) (i : Nat) : Option Nat := match b with
  | none => some i
  | some j => if ltB (nmS l i) (nmS l j) = true then some i else some j
def leastS (l : List VSys) (L : List Nat) : Option Nat := L.foldl (bestF l) none
def runK (l : List VSys) (k : Int) : Nat → List Nat → List Nat
  | 0, out => out
  | f + 1, out => match leastS l (candsK l k out) with
    | none => out
    | some i => runK l k f (out ++ [i])
/-- The document's way. -/
def canS (l : List VSys) (out : List Nat) (s : Int) (i : Nat) : Bool := !out.contains i && (decide (stS l i = s) && (afS l i).all (fun a => out.contains (fdS l a)))
def minF (l : List VSys) (out : List Nat) (m : Int) (i : Nat) : Int := if out.contains i = false ∧ stS l i < m then stS l i else m
def minS (l : List VSys) (out : List Nat) : Int := (List.range l.length).foldl (minF l out) 99
def stepS (l : List VSys) (out : List Nat) : Option Nat := leastS l ((List.range l.length).filter (canS l out (minS l out)))
def runS (l : List VSys) : Nat → List Nat → Option (List Nat)
  | 0, out => some out
  | f + 1, out => match stepS l out with
    | none => none
    | some i => runS l f (out ++ [i])
def accP (l : List VSys) : Nat → List Nat
  | 0 => []
  | k + 1 => accP l k ++ runK l (k : Int) l.length []

theorem sub_len : ∀ {A B : List Nat}, A.Nodup → (∀ x ∈ A, x ∈ B) → A.length ≤ B.length
  | [], _, _, _ => Nat.zero_le _
  | a :: A, B, hn, hs => by
    obtain ⟨h1, h2⟩ := List.nodup_cons.1 hn
    have hb := hs a (by simp)
    have h3 := sub_len (A := A) (B := B.erase a) h2 (fun x hx => (List.mem_erase_of_ne (fun e => h1 (by rw [← e]; exact hx))).2 (hs x (by simp [hx])))
    rw [List.length_erase_of_mem hb] at h3
    have := List.length_pos_of_mem hb
    rw [List.length_cons]; omega
theorem least_go {l : List VSys} : ∀ (L : List Nat) (i0 : Nat), ∃ i, L.foldl (bestF l) (some i0) = some i ∧ (i = i0 ∨ i ∈ L) ∧ (∀ j ∈ L, ltB (nmS l j) (nmS l i) = false) ∧ ltB (nmS l i0) (nmS l i) = false
  | [], i0 => ⟨i0, rfl, .inl rfl, by simp, ltB_irr _⟩
  | a :: L, i0 => by
    rw [List.foldl_cons]
    unfold bestF
    dsimp only
    by_cases h : ltB (nmS l a) (nmS l i0) = true
    · rw [if_pos h]
      obtain ⟨i, h1, h2, h3, h4⟩ := least_go L a
      refine ⟨i, h1, ?_, ?_, ?_⟩
      · rcases h2 with h2 | h2
        · exact .inr (by simp [h2])
        · exact .inr (by simp [h2])
      · intro j hj
        rcases List.mem_cons.1 hj with rfl | hj
        · exact h4
        · exact h3 j hj
      · cases h5 : ltB (nmS l i0) (nmS l i)
        · rfl
        · rw [ltB_trans h h5] at h4; cases h4
    · rw [if_neg h]
      obtain ⟨i, h1, h2, h3, h4⟩ := least_go L i0
      refine ⟨i, h1, ?_, ?_, h4⟩
      · rcases h2 with h2 | h2
        · exact .inl h2
        · exact .inr (by simp [h2])
      · intro j hj
        rcases List.mem_cons.1 hj with rfl | hj
        · cases h5 : ltB (nmS l j) (nmS l i)
          · rfl
          · by_cases e : nmS l i0 = nmS l j
            · rw [e, h5] at h4; cases h4
            · rcases ltB_total e with h6 | h6
              · rw [ltB_trans h6 h5] at h4; cases h4
              · exact absurd h6 h
        · exact h3 j hj
theorem least_none {l : List VSys} {L : List Nat} : leastS l L = none ↔ L = [] := by
  constructor
  · intro h
    cases L with
    | nil => rfl
    | cons a L =>
      obtain ⟨i, h1, _⟩ := least_go (l := l) L a
      unfold leastS at h
      rw [List.foldl_cons] at h
      rw [show bestF l none a = some a from rfl, h1] at h
      cases h
  · rintro rfl; rfl
theorem least_some {l : List VSys} {L : List Nat} {i : Nat} (h : leastS l L = some i) : i ∈ L ∧ ∀ j ∈ L, ltB (nmS l j) (nmS l i) = false := by
  cases L with
  | nil => cases h
  | cons a L =>
    obtain ⟨i', h1, h2, h3, h4⟩ := least_go (l := l) L a
    unfold leastS at h
    rw [List.foldl_cons, show bestF l none a = some a from rfl, h1] at h
    injection h with h
    subst h
    refine ⟨?_, fun j hj => ?_⟩
    · rcases h2 with rfl | h2
      · simp
      · simp [h2]
    · rcases List.mem_cons.1 hj with rfl | hj
      · exact h4
      · exact h3 j hj
theorem least_eq {l : List VSys} (ok : OkS l) {L : List Nat} (hL : ∀ j ∈ L, j < l.length) {i : Nat} (hi : i ∈ L) (hm : ∀ j ∈ L, ltB (nmS l j) (nmS l i) = false) : leastS l L = some i := by
  cases h : leastS l L with
  | none => rw [least_none.1 h] at hi; cases hi
  | some i' =>
    obtain ⟨h1, h2⟩ := least_some h
    by_cases e : nmS l i = nmS l i'
    · rw [ok.uniq i i' (hL i hi) (hL i' h1) e]
    · rcases ltB_total e with h3 | h3
      · rw [h2 i hi] at h3; cases h3
      · rw [hm i' h1] at h3; cases h3
theorem cands_mem {l : List VSys} {k : Int} {out : List Nat} {i : Nat} : i ∈ candsK l k out ↔ i < l.length ∧ inC l k out i = true := by
  unfold candsK
  rw [List.mem_filter, List.mem_range]
theorem has_c (out : List Nat) (i : Nat) : out.contains i = true ↔ i ∈ out := List.contains_iff_mem
theorem not_c {out : List Nat} {i : Nat} (h : i ∉ out) : out.contains i = false := by
  cases h5 : out.contains i with
  | false => rfl
  | true => exact absurd ((has_c _ _).1 h5) h
theorem inC_iff {l : List VSys} {k : Int} {out : List Nat} {i : Nat} : inC l k out i = true ↔ i ∉ out ∧ stS l i = k ∧ ∀ a ∈ afS l i, stS l (fdS l a) = k → fdS l a ∈ out := by
  unfold inC
  rw [Bool.and_eq_true, Bool.and_eq_true, Bool.not_eq_true', decide_eq_true_iff, List.all_eq_true]
  constructor
  · rintro ⟨h1, h2, h3⟩
    refine ⟨fun h => (by rw [(has_c out i).2 h] at h1; cases h1), h2, fun a ha hs => ?_⟩
    have := h3 a ha
    rw [Bool.or_eq_true, decide_eq_true_iff] at this
    rcases this with h | h
    · exact absurd hs h
    · exact (has_c _ _).1 h
  · rintro ⟨h1, h2, h3⟩
    refine ⟨not_c h1, h2, fun a ha => ?_⟩
    rw [Bool.or_eq_true, decide_eq_true_iff]
    by_cases hs : stS l (fdS l a) = k
    · exact .inr ((has_c _ _).2 (h3 a ha hs))
    · exact .inl hs
theorem canS_iff {l : List VSys} {k : Int} {out : List Nat} {i : Nat} : canS l out k i = true ↔ i ∉ out ∧ stS l i = k ∧ ∀ a ∈ afS l i, fdS l a ∈ out := by
  unfold canS
  rw [Bool.and_eq_true, Bool.and_eq_true, Bool.not_eq_true', decide_eq_true_iff, List.all_eq_true]
  constructor
  · rintro ⟨h1, h2, h3⟩
    exact ⟨fun h => (by rw [(has_c out i).2 h] at h1; cases h1), h2, fun a ha => (has_c _ _).1 (h3 a ha)⟩
  · rintro ⟨h1, h2, h3⟩
    exact ⟨not_c h1, h2, fun a ha => (has_c _ _).2 (h3 a ha)⟩
theorem min_go {l : List VSys} {out : List Nat} : ∀ (L : List Nat) (m : Int), L.foldl (minF l out) m ≤ m ∧ (∀ i ∈ L, i ∉ out → L.foldl (minF l out) m ≤ stS l i) ∧ (L.foldl (minF l out) m = m ∨ ∃ i ∈ L, i ∉ out ∧ L.foldl (minF l out) m = stS l i)
  | [], m => ⟨Int.le_refl _, by simp, .inl rfl⟩
  | a :: L, m => by
    rw [List.foldl_cons]
    obtain ⟨h1, h2, h3⟩ := min_go L (minF l out m a)
    have h0 : minF l out m a ≤ m ∧ (a ∉ out → minF l out m a ≤ stS l a) ∧ (minF l out m a = m ∨ (a ∉ out ∧ minF l out m a = stS l a)) := by
      unfold minF
      by_cases h : out.contains a = false ∧ stS l a < m
      · rw [if_pos h]
        exact ⟨by omega, fun _ => Int.le_refl _, .inr ⟨fun e => (by rw [(has_c out a).2 e] at h; cases h.1), rfl⟩⟩
      · rw [if_neg h]
        refine ⟨Int.le_refl _, fun ha => ?_, .inl rfl⟩
        have hc : out.contains a = false := not_c ha
        have : ¬ stS l a < m := fun h6 => h ⟨hc, h6⟩
        omega
    refine ⟨Int.le_trans h1 h0.1, ?_, ?_⟩
    · intro i hi hio
      rcases List.mem_cons.1 hi with rfl | hi
      · exact Int.le_trans h1 (h0.2.1 hio)
      · exact h2 i hi hio
    · rcases h3 with h3 | ⟨i, hi, hio, h3⟩
      · rcases h0.2.2 with h4 | ⟨h4, h5⟩
        · exact .inl (h3.trans h4)
        · exact .inr ⟨a, by simp, h4, h3.trans h5⟩
      · exact .inr ⟨i, by simp [hi], hio, h3⟩
theorem min_at {l : List VSys} (ok : OkS l) {out : List Nat} {k : Int} {i : Nat} (hi : i < l.length) (hio : i ∉ out) (hk : stS l i = k) (hlow : ∀ j, j < l.length → stS l j < k → j ∈ out) : minS l out = k := by
  obtain ⟨h1, h2, h3⟩ := min_go (l := l) (out := out) (List.range l.length) 99
  have h4 := h2 i (List.mem_range.2 hi) hio
  unfold minS
  rcases h3 with h3 | ⟨j, hj, hjo, h3⟩
  · have := (ok.stage i hi).2
    omega
  · have : ¬ stS l j < k := fun h => hjo (hlow j (List.mem_range.1 hj) h)
    omega
/-- One step of both ways. -/
theorem step_same {l : List VSys} (ok : OkS l) {k : Int} {O out : List Nat} (hO : ∀ i, i < l.length → (i ∈ O ↔ stS l i < k)) {i : Nat} (hi : i < l.length) (hio : i ∉ out) (hk : stS l i = k) :
    stepS l (O ++ out) = leastS l (candsK l k out) := by
  have hmin : minS l (O ++ out) = k := min_at ok hi (fun h => by
    rcases List.mem_append.1 h with h | h
    · have := (hO i hi).1 h; omega
    · exact hio h) hk (fun j hj h => List.mem_append.2 (.inl ((hO j hj).2 h)))
  unfold stepS candsK
  rw [hmin]
  congr 1
  apply List.filter_congr
  intro j hj
  have hj := List.mem_range.1 hj
  apply Bool.eq_iff_iff.2
  rw [canS_iff, inC_iff]
  constructor
  · rintro ⟨h1, h2, h3⟩
    refine ⟨fun h => h1 (List.mem_append.2 (.inr h)), h2, fun a ha hs => ?_⟩
    rcases List.mem_append.1 (h3 a ha) with h | h
    · obtain ⟨m, hm, hml, _, _⟩ := ok.has j hj a ha
      have hf : fdS l a = m := by unfold fdS; rw [hm, Int.toNat_natCast]
      rw [hf] at h hs
      have := (hO m hml).1 h
      omega
    · exact h
  · rintro ⟨h1, h2, h3⟩
    refine ⟨fun h => ?_, h2, fun a ha => ?_⟩
    · rcases List.mem_append.1 h with h | h
      · have := (hO j hj).1 h; omega
      · exact h1 h
    · obtain ⟨m, hm, hml, _, hms⟩ := ok.has j hj a ha
      have hf : fdS l a = m := by unfold fdS; rw [hm, Int.toNat_natCast]
      rw [hf]
      by_cases hs : stS l m = k
      · exact List.mem_append.2 (.inr (by have := h3 a ha (by rw [hf]; exact hs); rwa [hf] at this))
      · exact List.mem_append.2 (.inl ((hO m hml).2 (by omega)))
theorem runK_run {l : List VSys} (ok : OkS l) {k : Int} {O : List Nat} (hO : ∀ i, i < l.length → (i ∈ O ↔ stS l i < k)) (hOl : ∀ i ∈ O, i < l.length) (hOn : O.Nodup) : ∀ (f : Nat) (out : List Nat), out.Nodup → (∀ i ∈ out, i < l.length ∧ stS l i = k) → l.length ≤ f + out.length →
    (runK l k f out).Nodup ∧ (∀ i ∈ runK l k f out, i < l.length ∧ stS l i = k) ∧
    (((∀ i, i < l.length → stS l i = k → i ∈ runK l k f out) ∧ runS l (l.length - (O ++ out).length) (O ++ out) = runS l (l.length - (O ++ runK l k f out).length) (O ++ runK l k f out)) ∨
     ((∃ i, i < l.length ∧ stS l i = k ∧ i ∉ runK l k f out) ∧ runS l (l.length - (O ++ out).length) (O ++ out) = none)) := by
  have hlt : ∀ out : List Nat, out.Nodup → (∀ i ∈ out, i < l.length ∧ stS l i = k) → ∀ i, i < l.length → stS l i = k → i ∉ out → (O ++ out).length < l.length := by
    intro out hn ho i hi hk hio
    have hnd : (i :: (O ++ out)).Nodup := by
      rw [List.nodup_cons, List.nodup_append]
      refine ⟨fun h => ?_, hOn, hn, fun a ha b hb e => ?_⟩
      · rcases List.mem_append.1 h with h | h
        · have := (hO i hi).1 h; omega
        · exact hio h
      · subst e
        have h1 := (hO a (hOl a ha)).1 ha
        have h2 := (ho a hb).2
        omega
    have := sub_len hnd (B := List.range l.length) (fun x hx => by
      rw [List.mem_range]
      rcases List.mem_cons.1 hx with rfl | hx
      · exact hi
      · rcases List.mem_append.1 hx with h | h
        · exact hOl x h
        · exact (ho x h).1)
    rw [List.length_cons, List.length_range] at this
    omega
  intro f
  induction f with
  | zero =>
    intro out hn ho hlen
    refine ⟨hn, ho, .inl ⟨fun i hi hk => ?_, rfl⟩⟩
    rw [runK]
    apply Classical.byContradiction
    intro h
    have h1 := hlt out hn ho i hi hk h
    rw [List.length_append] at h1
    omega
  | succ f ih =>
    intro out hn ho hlen
    rw [runK]
    cases hl : leastS l (candsK l k out) with
    | none =>
      dsimp only
      refine ⟨hn, ho, ?_⟩
      by_cases hc : ∀ i, i < l.length → stS l i = k → i ∈ out
      · exact .inl ⟨hc, rfl⟩
      · right
        have hex : ∃ i, i < l.length ∧ stS l i = k ∧ i ∉ out := by
          apply Classical.byContradiction
          intro h
          exact hc fun i hi hk => Classical.byContradiction fun h2 => h ⟨i, hi, hk, h2⟩
        obtain ⟨i, hi, hk, hio⟩ := hex
        refine ⟨⟨i, hi, hk, hio⟩, ?_⟩
        have h1 := hlt out hn ho i hi hk hio
        obtain ⟨g, hg⟩ : ∃ g, l.length - (O ++ out).length = g + 1 := ⟨l.length - (O ++ out).length - 1, by omega⟩
        rw [hg, runS, step_same ok hO hi hio hk, hl]
    | some i =>
      dsimp only
      obtain ⟨hi1, _⟩ := least_some hl
      obtain ⟨hi, hic⟩ := cands_mem.1 hi1
      obtain ⟨hio, hk, _⟩ := inC_iff.1 hic
      have hn2 : (out ++ [i]).Nodup := by
        rw [List.nodup_append]
        exact ⟨hn, by simp, fun a ha b hb e => by rw [List.mem_singleton.1 hb] at e; exact hio (e ▸ ha)⟩
      have ho2 : ∀ j ∈ out ++ [i], j < l.length ∧ stS l j = k := fun j hj => by
        rcases List.mem_append.1 hj with h | h
        · exact ho j h
        · rw [List.mem_singleton.1 h]; exact ⟨hi, hk⟩
      have h1 := hlt out hn ho i hi hk hio
      obtain ⟨g, hg⟩ : ∃ g, l.length - (O ++ out).length = g + 1 := ⟨l.length - (O ++ out).length - 1, by omega⟩
      have hrun : runS l (l.length - (O ++ out).length) (O ++ out) = runS l (l.length - (O ++ (out ++ [i])).length) (O ++ (out ++ [i])) := by
        rw [hg, runS, step_same ok hO hi hio hk, hl]
        dsimp only
        rw [← List.append_assoc]
        congr 1
        rw [List.length_append (bs := [i]), List.length_singleton]
        omega
      rw [hrun]
      exact ih (out ++ [i]) hn2 ho2 (by rw [List.length_append, List.length_singleton]; omega)
theorem acc_inv {l : List VSys} (ok : OkS l) : ∀ k : Nat, (accP l k).Nodup ∧ (∀ i ∈ accP l k, i < l.length ∧ stS l i < k) ∧
    (((∀ i, i < l.length → stS l i < k → i ∈ accP l k) ∧ runS l l.length [] = runS l (l.length - (accP l k).length) (accP l k)) ∨ ((∃ i, i < l.length ∧ stS l i < k ∧ i ∉ accP l k) ∧ runS l l.length [] = none))
  | 0 => ⟨by simp [accP], by simp [accP], .inl ⟨fun i hi h => by have := (ok.stage i hi).1; omega, by simp [accP]⟩⟩
  | k + 1 => by
    obtain ⟨h1, h2, h3⟩ := acc_inv ok k
    rw [accP]
    have hS : (runK l (k : Int) l.length []).Nodup ∧ (∀ i ∈ runK l (k : Int) l.length [], i < l.length ∧ stS l i = k) := by
      have gen : ∀ (f : Nat) (out : List Nat), out.Nodup → (∀ i ∈ out, i < l.length ∧ stS l i = k) → (runK l (k : Int) f out).Nodup ∧ (∀ i ∈ runK l (k : Int) f out, i < l.length ∧ stS l i = k) := by
        intro f
        induction f with
        | zero => exact fun out hn ho => ⟨hn, ho⟩
        | succ f ih =>
          intro out hn ho
          rw [runK]
          cases hl : leastS l (candsK l k out) with
          | none => exact ⟨hn, ho⟩
          | some i =>
            obtain ⟨hi, hic⟩ := cands_mem.1 (least_some hl).1
            obtain ⟨hio, hk, _⟩ := inC_iff.1 hic
            refine ih (out ++ [i]) ?_ ?_
            · rw [List.nodup_append]
              exact ⟨hn, by simp, fun a ha b hb e => by rw [List.mem_singleton.1 hb] at e; exact hio (e ▸ ha)⟩
            · intro j hj
              rcases List.mem_append.1 hj with h | h
              · exact ho j h
              · rw [List.mem_singleton.1 h]; exact ⟨hi, hk⟩
      exact gen l.length [] (by simp) (by simp)
    refine ⟨?_, ?_, ?_⟩
    · rw [List.nodup_append]
      exact ⟨h1, hS.1, fun a ha b hb e => by subst e; have := (h2 a ha).2; have := (hS.2 a hb).2; omega⟩
    · intro i hi
      rcases List.mem_append.1 hi with h | h
      · have := h2 i h; exact ⟨this.1, by omega⟩
      · have := hS.2 i h; exact ⟨this.1, by omega⟩
    · rcases h3 with ⟨h3, h4⟩ | ⟨⟨i, hi, hik, hio⟩, h4⟩
      · have hO : ∀ i, i < l.length → (i ∈ accP l k ↔ stS l i < (k : Int)) := fun i hi => ⟨fun h => (h2 i h).2, h3 i hi⟩
        obtain ⟨_, _, h7⟩ := runK_run ok hO (fun i h => (h2 i h).1) h1 l.length [] (by simp) (by simp) (by simp)
        rw [List.append_nil] at h7
        rcases h7 with ⟨h8, h9⟩ | ⟨⟨i, hi, hik, hio⟩, h9⟩
        · refine .inl ⟨fun i hi h => List.mem_append.2 ?_, by rw [h4, h9]⟩
          by_cases hs : stS l i < (k : Int)
          · exact .inl (h3 i hi hs)
          · exact .inr (h8 i hi (by omega))
        · refine .inr ⟨⟨i, hi, by omega, fun h => ?_⟩, by rw [h4, h9]⟩
          rcases List.mem_append.1 h with h | h
          · have := (h2 i h).2; omega
          · exact hio h
      · refine .inr ⟨⟨i, hi, by omega, fun h => ?_⟩, h4⟩
        rcases List.mem_append.1 h with h | h
        · exact hio h
        · have := (hS.2 i h).2; omega
/-- Stage by stage is the document's order. -/
theorem order_eq {l : List VSys} (ok : OkS l) : runS l l.length [] = if (accP l 10).length < l.length then none else some (accP l 10) := by
  obtain ⟨h1, h2, h3⟩ := acc_inv ok 10
  rcases h3 with ⟨h3, h4⟩ | ⟨⟨i, hi, hik, hio⟩, h4⟩
  · have hge : l.length ≤ (accP l 10).length := by
      have := sub_len (A := List.range l.length) (B := accP l 10) List.nodup_range (fun x hx => h3 x (List.mem_range.1 hx) (by have := (ok.stage x (List.mem_range.1 hx)).2; omega))
      rwa [List.length_range] at this
    rw [h4, if_neg (by omega), show l.length - (accP l 10).length = 0 by omega]
    rfl
  · have hlt : (accP l 10).length < l.length := by
      have := sub_len (A := i :: accP l 10) (B := List.range l.length) (List.nodup_cons.2 ⟨hio, h1⟩) (fun x hx => by
        rw [List.mem_range]
        rcases List.mem_cons.1 hx with rfl | hx
        · exact hi
        · exact (h2 x hx).1)
      rw [List.length_cons, List.length_range] at this
      omega
    rw [h4, if_pos hlt]
end Go.Proofs.Ytcbboaoakgngkaa

namespace Go.Proofs.Ytcbboaoakgngkaa
open Go.RowKit Go.Proofs.Heap Go.Proofs.Sch

theorem sys_clo (s : VSys) (pa : Option Addr) (ca : Nat) (pc : Option Addr) (cc cb : Nat) (t : ByteArray) (w : World) (hc : w.cell? ⟨cb, 0, none⟩ = some (.string t)) :
    Calls Try.prog 91 #[SysV s pa ca pc cc, .pointer (some ⟨cb, 0, none⟩)] w fun r w' => r = .returned (.bool (decide (s.name = t))) ∧ Keep (fun _ => False) w w' := by
  obtain ⟨w1, hw1, hb1, hs1, hk1⟩ := box1 w (SysC s pa ca pc cc) 43
  have HK1 := hid hk1
  have hlt := World.block_lt_of_cell? w _ hc
  have hc2 : w1.cell? ⟨cb, 0, none⟩ = some (.string t) := ((Low.keep0 hk1).cell (o := 0) hlt).trans hc
  have c0 := cell_of hb1 (i := 0) (by rfl)
  simp only [List.getElem_toArray, List.getElem_cons_zero] at c0
  have hs := seq_dec s.name t
  clear hb1 hs1 hk1 hc hlt
  go_enter Try.func91, Try.ntmps91
  go_upto_region 1 with fail
  rw [← hw1]
  clear hw1
  generalize w.heap.size = xb at *
  go_wp2
  go_ret
  exact ⟨by first | rfl | (rw [← hs]; rfl), HK1.out⟩

set_option maxRecDepth 20000 in
set_option maxHeartbeats 4000000 in
theorem idx_sys (l : List VSys) (t : ByteArray) (cb : Nat) (p : Option Addr) (cap : Nat) (w : World) (hl : l.length ≤ 65536) (hf : SP w w.heap.size p l) (hc : w.cell? ⟨cb, 0, none⟩ = some (.string t)) :
    Calls Try.prog 90 #[.slice p l.length cap, .func (.func 91) #[] #[.pointer (some ⟨cb, 0, none⟩)]] w fun r w' => r = .returned (.int .i64 (idxI (fun x : VSys => decide (x.name = t)) l)) ∧ Keep (fun _ => False) w w' := by
  have HF : Hid (∀ wy, Keep (fun _ => False) w wy → SP wy wy.heap.size p l) := hid (fun wy hk => SP.mono (SP.low hf (Low.keep0 hk)) hk.size)
  have HQ : Hid (∀ (s : VSys) (pa : Option Addr) (ca : Nat) (pc : Option Addr) (cc : Nat) (wy : World), Keep (fun _ => False) w wy → Calls Try.prog 91 #[SysV s pa ca pc cc, .pointer (some ⟨cb, 0, none⟩)] wy fun r w' => r = .returned (.bool ((fun x : VSys => decide (x.name = t)) s)) ∧ Keep (fun _ => False) wy w') :=
    hid (fun s pa ca pc cc wy hk => sys_clo s pa ca pc cc cb t wy (((Low.keep0 hk).cell (o := 0) (World.block_lt_of_cell? w _ hc)).trans hc))
  obtain ⟨q, hqe⟩ : ∃ q : VSys → Bool, q = (fun x : VSys => decide (x.name = t)) := ⟨_, rfl⟩
  rw [← hqe] at HQ
  rw [← hqe]
  clear hf hc hqe
  go_enter Try.func90, Try.ntmps90
  go_wp2_with fail
  go_loopw [5, 8] (fun _ i wr => ∃ k : Nat, k ≤ l.length ∧ i = iV k ∧ Keep (fun _ => False) w wr ∧ ∀ c ∈ l.take k, q c = false) (fun _ i _ => l.length + 1 - (intOf i).toNat)
  case atStart => exact ⟨0, by omega, rfl, Keep.refl _ _, by simp⟩
  case round =>
    obtain ⟨k, hk, rfl, hkeep, hall⟩ := hrel
    have HK := hid hkeep; have HA := hid hall
    clear hkeep hall
    by_cases hlt : k < l.length
    · obtain ⟨x, hxk⟩ : ∃ x, l[k]? = some x := ⟨l[k], by simp [hlt]⟩
      obtain ⟨b, off, pa, ca, pc, cc, rfl, hb, c0, c1, c2, c3, c4, c5, n1, n2, hca, hta, hvc⟩ := SP.at (HF.out _ HK.out) hxk
      have hin : (0 : Int) ≤ (k : Int) ∧ (k : Int) < (l.length : Int) := ⟨by omega, by omega⟩
      have HCK := hid hxk
      clear hxk hb n1 n2 hca hta hvc
      go_wp2_with fail
      refine (HQ.out x pa ca pc cc _ HK.out).mono ?_
      rintro r w1 ⟨rfl, hk1⟩
      have HK1 := hid (HK.out.trans hk1)
      clear hk1 c0 c1 c2 c3 c4 c5
      cases hqc : q x
      · have HN : Hid (∀ d ∈ l.take (k + 1), q d = false) := hid (fun d hd => by
          rw [take_next HCK.out] at hd
          rcases List.mem_append.1 hd with h | h
          · exact HA.out d h
          · rw [List.mem_singleton.1 h]; exact hqc)
        clear hqc
        go_wp2
        go_roundw
        case rel => exact ⟨k + 1, by omega, by go_num, HK1.out, HN.out⟩
        case measure => simp [intOf]; omega
      · have G3 := hid (idx_at HCK.out hqc HA.out)
        clear hqc
        go_wp2
        go_ret
        exact ⟨by rw [G3.out]; rfl, HK1.out⟩
    · obtain rfl : k = l.length := by omega
      have G3 := hid (idx_none (q := q) (l := l) (by have := HA.out; rwa [List.take_length] at this))
      go_wp2
      go_ret
      exact ⟨by rw [G3.out]; rfl, HK.out⟩

set_option maxRecDepth 20000 in
theorem sd_find (l : List VSys) (t : ByteArray) (p : Option Addr) (cap : Nat) (w : World) (hl : l.length ≤ 65536) (hf : SP w w.heap.size p l) :
    Calls Try.prog 74 #[.slice p l.length cap, .string t] w fun r w' => r = .returned (.int .i64 (fnS l t)) ∧ Keep (fun _ => False) w w' := by
  obtain ⟨w1, hw1, hb1, hs1, hk1⟩ := box1 w #[.string t] 9
  have HK1 := hid hk1
  have HI := hid (idx_sys l t w.heap.size p cap w1 hl (SP.mono (SP.low hf (Low.keep0 hk1)) hk1.size) (cell_of hb1 (by rfl)))
  have HF : Hid (fnS l t = idxI (fun x : VSys => decide (x.name = t)) l) := hid rfl
  clear hb1 hs1 hk1 hf hl
  go_enter Try.func74, Try.ntmps74
  go_upto_region 1 with fail
  rw [← hw1]
  clear hw1
  generalize w.heap.size = xb at *
  generalize idxI (fun x : VSys => decide (x.name = t)) l = z at *
  go_wp2_with fail
  refine HI.out.mono ?_
  rintro r w2 ⟨rfl, hk2⟩
  have HK2 := hid (HK1.out.trans hk2)
  clear hk2
  go_wp2
  go_ret
  exact ⟨by rw [HF.out]; rfl, HK2.out⟩

theorem fn_bound (l : List VSys) (t : ByteArray) : -1 ≤ fnS l t ∧ fnS l t < l.length ∨ (fnS l t = -1) := by
  unfold fnS
  rcases idx_cases (fun x : VSys => decide (x.name = t)) l with h | ⟨k, x, h, _, _, hk⟩
  · exact .inr h
  · exact .inl ⟨by omega, by omega⟩

/-- What is wrong with a row of systems, place by place. -/
def chkAt (l : List VSys) (i : Nat) : Nat := match l[i]? with
  | some s => if sysC s ≠ 0 then sysC s else if fnS l s.name < (i : Int) then 1 else 0
  | none => 0
def checkS (l : List VSys) : Nat := if 16 < l.length then 5 else firstE ((List.range l.length).map (chkAt l))
theorem rangeE_at {f : Nat → Nat} {n k : Nat} (hk : k < n) (he : f k ≠ 0) (h : ∀ j, j < k → f j = 0) : firstE ((List.range n).map f) = f k :=
  firstE_at (by rw [List.getElem?_map, List.getElem?_range hk]; rfl) he (fun j hj => by rw [List.getElem?_map, List.getElem?_range (by omega)]; simp [h j hj])
theorem rangeE_none {f : Nat → Nat} {n : Nat} (h : ∀ j, j < n → f j = 0) : firstE ((List.range n).map f) = 0 :=
  firstE_none (fun e he => by obtain ⟨j, hj, rfl⟩ := List.mem_map.1 he; exact h j (List.mem_range.1 hj))

set_option maxRecDepth 20000 in
set_option maxHeartbeats 8000000 in
theorem sd_check (l : List VSys) (q : Option Addr) (qc : Nat) (w : World) (hs : SP w w.heap.size q l) :
    Calls Try.prog 46 #[.slice q l.length qc] w fun r w' => r = .returned (iV (checkS l)) ∧ Keep (fun _ => False) w w' := by
  have HSP : Hid (∀ wy, Keep (fun _ => False) w wy → SP wy wy.heap.size q l) := hid (fun wy hk => SP.mono (SP.low hs (Low.keep0 hk)) hk.size)
  have HE : Hid (checkS l = if 16 < l.length then 5 else firstE ((List.range l.length).map (chkAt l))) := hid rfl
  generalize checkS l = R at *
  clear hs
  go_enter Try.func46, Try.ntmps46
  by_cases hbig : 16 < l.length
  · have hbigI : (16 : Int) < (l.length : Int) := by omega
    have G : Hid (R = 5) := hid (by rw [HE.out, if_pos hbig])
    go_wp2
    go_ret
    exact ⟨by rw [G.out]; rfl, Keep.refl _ _⟩
  have hbigI : ¬ (16 : Int) < (l.length : Int) := by omega
  have HLE := hid hbig
  have HE1 : Hid (R = firstE ((List.range l.length).map (chkAt l))) := hid (by rw [HE.out, if_neg hbig])
  clear HE hbig
  go_wp2_with fail
  go_loopw [3, 4, 5, 11] (fun _ _ _ i wr => ∃ k : Nat, k ≤ l.length ∧ i = iV k ∧ Keep (fun _ => False) w wr ∧ ∀ j, j < k → chkAt l j = 0) (fun _ _ _ i _ => l.length + 1 - (intOf i).toNat)
  case atStart => exact ⟨0, by omega, rfl, Keep.refl _ _, fun j h => by omega⟩
  case round =>
    clear hbigI
    obtain ⟨k, hk, rfl, hkeep, hzero⟩ := hrel
    have HK := hid hkeep; have HZ := hid hzero
    clear hkeep hzero
    by_cases hlt : k < l.length
    · obtain ⟨s, hsk⟩ : ∃ s, l[k]? = some s := ⟨l[k], by simp [hlt]⟩
      have hk16 : k < 16 := by have := HLE.out; omega
      have HL6 : Hid (l.length ≤ 65536) := hid (by have := HLE.out; omega)
      obtain ⟨b, off, pa, ca, pc, cc, rfl, hb, c0, c1, c2, c3, c4, c5, n1, n2, hca, hta, hvc⟩ := SP.at (HSP.out _ HK.out) hsk
      have hin : (0 : Int) ≤ (k : Int) ∧ (k : Int) < (l.length : Int) := ⟨by omega, by omega⟩
      have HCA : Hid (chkAt l k = if sysC s ≠ 0 then sysC s else if fnS l s.name < (k : Int) then 1 else 0) := hid (by unfold chkAt; rw [hsk])
      have HBAD : Hid (chkAt l k ≠ 0 → R = chkAt l k) := hid (fun h => by rw [HE1.out]; exact rangeE_at hlt h HZ.out)
      have HGOOD : Hid (chkAt l k = 0 → ∀ j, j < k + 1 → chkAt l j = 0) := hid (fun h j hj => by
        by_cases hjk : j < k
        · exact HZ.out j hjk
        · obtain rfl : j = k := by omega
          exact h)
      generalize chkAt l k = ck at *
      obtain ⟨w5, hw5, hb5, hs5, hk5⟩ := box1 wr (SysC s pa ca pc cc) 43
      have HK5 := hid (HK.out.trans hk5)
      have HB5 := hid hb5
      have HCC := hid (craft_check s pa ca pc cc w5 n1 n2 hca (TP.mono (TP.low hta (Low.keep0 hk5)) hk5.size) (VP.mono (VP.low hvc (Low.keep0 hk5)) hk5.size))
      clear hb5 hs5 hk5 hta hvc n1 n2 hca hsk hb
      go_upto_region 6 with fail
      rw [← hw5]
      clear hw5 c0 c1 c2 c3 c4 c5
      generalize wr.heap.size = xb at *
      have HC : Hid (∀ wy, Keep (fun _ => False) w5 wy → wy.cell? ⟨xb, 0, none⟩ = some (.string s.name) ∧ wy.cell? ⟨xb, 1, none⟩ = some (.int .i64 s.stage) ∧ wy.cell? ⟨xb, 2, none⟩ = some (.slice pa s.after.length ca) ∧ wy.cell? ⟨xb, 3, none⟩ = some (.int .u32 (s.all : Int)) ∧ wy.cell? ⟨xb, 4, none⟩ = some (.int .u32 (s.none : Int)) ∧ wy.cell? ⟨xb, 5, none⟩ = some (.slice pc s.code.length cc)) := hid (fun wy hk =>
        ⟨cell_of (hk.get HB5.out id) (by rfl), cell_of (hk.get HB5.out id) (by rfl), cell_of (hk.get HB5.out id) (by rfl), cell_of (hk.get HB5.out id) (by rfl), cell_of (hk.get HB5.out id) (by rfl), cell_of (hk.get HB5.out id) (by rfl)⟩)
      obtain ⟨c0, c1, c2, c3, c4, c5⟩ := HC.out _ (Keep.refl _ _)
      go_wp2_with fail
      refine HCC.out.mono ?_
      rintro r w6 ⟨rfl, hk6⟩
      have HKX := hid hk6
      have HK6 := hid (HK5.out.trans hk6)
      clear hk6 c0 c1 c2 c3 c4 c5 HCC
      generalize sysC s = z at *
      by_cases hz : z = 0
      rotate_left
      · have g1 : ((z : Int) != 0) = true := by rw [bne, beq_eq_false_iff_ne.2 (show (z : Int) ≠ 0 by omega)]; rfl
        have g2 : (z != 0) = true := by rw [bne, beq_eq_false_iff_ne.2 hz]; rfl
        have h1 : ck = z := by rw [HCA.out, if_pos hz]
        have G : Hid (R = z) := hid (by rw [HBAD.out (by rw [h1]; exact hz), h1])
        clear h1
        go_wp2
        go_ret
        exact ⟨by rw [G.out]; rfl, HK6.out⟩
      subst hz
      have HCA2 : Hid (ck = if fnS l s.name < (k : Int) then 1 else 0) := hid (by rw [HCA.out, if_neg (by simp)])
      obtain ⟨c0, c1, c2, c3, c4, c5⟩ := HC.out _ HKX.out
      go_wp2_with fail
      refine (sd_find l s.name _ qc _ HL6.out (HSP.out _ HK6.out)).mono ?_
      rintro r w7 ⟨rfl, hk7⟩
      have HK7 := hid (HK6.out.trans hk7)
      clear hk7 c0 c1 c2 c3 c4 c5 HCA
      generalize fnS l s.name = fz at *
      by_cases hf : fz < (k : Int)
      · have g1 : decide (fz < (k : Int)) = true := decide_eq_true hf
        have h1 : ck = 1 := by rw [HCA2.out, if_pos hf]
        have G : Hid (R = 1) := hid (by rw [HBAD.out (by rw [h1]; omega), h1])
        clear h1 hf
        go_wp2
        go_ret
        exact ⟨by rw [G.out]; rfl, HK7.out⟩
      · have g1 : decide (fz < (k : Int)) = false := decide_eq_false hf
        have G := hid (HGOOD.out (by rw [HCA2.out, if_neg hf]))
        clear hf
        go_wp2
        go_roundw
        case rel => exact ⟨k + 1, by omega, by go_num, HK7.out, G.out⟩
        case measure => simp [intOf]; omega
    · obtain rfl : k = l.length := by omega
      have g1 : decide ((l.length : Int) < (l.length : Int)) = false := decide_eq_false (by omega)
      have g2 : decide (l.length < l.length) = false := decide_eq_false (by omega)
      have G : Hid (R = 0) := hid (by rw [HE1.out]; exact rangeE_none HZ.out)
      go_wp2
      go_ret
      exact ⟨by rw [G.out]; rfl, HK.out⟩
end Go.Proofs.Ytcbboaoakgngkaa

namespace Go.Proofs.Ytcbboaoakgngkaa
open Go.RowKit Go.Proofs.Heap Go.Proofs.Sch

def lnkAt (l : List VSys) (i : Nat) (a : ByteArray) : Nat := if fnS l a < 0 then 6 else if stS l i < stS l (fdS l a) then 7 else 0
def lnkE (l : List VSys) (i : Nat) : Nat := firstE ((afS l i).map (lnkAt l i))
def linksS (l : List VSys) : Nat := firstE ((List.range l.length).map (lnkE l))
/-- A system's place in a row, its cells. -/
theorem sys_stage {w : World} {B : Nat} {b off : Nat} {l : List VSys} (h : SP w B (some ⟨b, off, none⟩) l) {m : Nat} (hm : m < l.length) : w.cell? ⟨b, off + m * 6 + 1, none⟩ = some (.int .i64 (stS l m)) := by
  obtain ⟨u, hu⟩ : ∃ u, l[m]? = some u := ⟨l[m], by simp [hm]⟩
  obtain ⟨b', off', _, _, _, _, hp, _, _, d1, _⟩ := SP.at h hu
  injection hp with hp
  injection hp with e1 e2
  subst e1; subst e2
  rw [stS_at hu]; exact d1
theorem sys_name {w : World} {B : Nat} {b off : Nat} {l : List VSys} (h : SP w B (some ⟨b, off, none⟩) l) {m : Nat} (hm : m < l.length) : w.cell? ⟨b, off + m * 6, none⟩ = some (.string (nmS l m)) := by
  obtain ⟨u, hu⟩ : ∃ u, l[m]? = some u := ⟨l[m], by simp [hm]⟩
  obtain ⟨b', off', _, _, _, _, hp, _, d0, _⟩ := SP.at h hu
  injection hp with hp
  injection hp with e1 e2
  subst e1; subst e2
  rw [nmS_at hu]; exact d0

set_option maxRecDepth 20000 in
set_option maxHeartbeats 8000000 in
theorem sd_links (l : List VSys) (q : Option Addr) (qc : Nat) (w : World) (hl : l.length ≤ 1000) (ha : ∀ s ∈ l, s.after.length ≤ 1000) (hs : SP w w.heap.size q l) :
    Calls Try.prog 47 #[.slice q l.length qc] w fun r w' => r = .returned (iV (linksS l)) ∧ Keep (fun _ => False) w w' := by
  have HSP : Hid (∀ wy, Keep (fun _ => False) w wy → SP wy wy.heap.size q l) := hid (fun wy hk => SP.mono (SP.low hs (Low.keep0 hk)) hk.size)
  have HE : Hid (linksS l = firstE ((List.range l.length).map (lnkE l))) := hid rfl
  have HL := hid hl; have HAF := hid ha
  generalize linksS l = R at *
  clear hs ha
  go_enter Try.func47, Try.ntmps47
  go_wp2_with fail
  go_loopw [4, 6, 7, 10] (fun _ _ _ i wr => ∃ k : Nat, k ≤ l.length ∧ i = iV k ∧ Keep (fun _ => False) w wr ∧ ∀ j, j < k → lnkE l j = 0) (fun _ _ _ i _ => l.length + 1 - (intOf i).toNat)
  case atStart => exact ⟨0, by omega, rfl, Keep.refl _ _, fun j h => by omega⟩
  case round =>
    obtain ⟨k, hk, rfl, hkeep, hzero⟩ := hrel
    have HK := hid hkeep; have HZ := hid hzero
    clear hkeep hzero
    by_cases hlt : k < l.length
    rotate_left
    · obtain rfl : k = l.length := by omega
      have g1 : decide ((l.length : Int) < (l.length : Int)) = false := decide_eq_false (by omega)
      have g2 : decide (l.length < l.length) = false := decide_eq_false (by omega)
      have G : Hid (R = 0) := hid (by rw [HE.out]; exact rangeE_none HZ.out)
      go_wp2
      go_ret
      exact ⟨by rw [G.out]; rfl, HK.out⟩
    · obtain ⟨s, hsk⟩ : ∃ s, l[k]? = some s := ⟨l[k], by simp [hlt]⟩
      have HSA := hid (HAF.out s (List.mem_of_getElem? hsk))
      obtain ⟨b, off, pa, ca, pc, cc, rfl, hb, c0, c1, c2, c3, c4, c5, n1, n2, hca, hta, hvc⟩ := SP.at (HSP.out _ HK.out) hsk
      have hin : (0 : Int) ≤ (k : Int) ∧ (k : Int) < (l.length : Int) := ⟨by omega, by omega⟩
      have HLK : Hid (lnkE l k = firstE (s.after.map (lnkAt l k))) := hid (by unfold lnkE; rw [afS_at hsk])
      have HST : Hid (stS l k = s.stage) := hid (stS_at hsk)
      have HBAD : Hid (lnkE l k ≠ 0 → R = lnkE l k) := hid (fun h => by rw [HE.out]; exact rangeE_at hlt h HZ.out)
      have HGOOD : Hid (lnkE l k = 0 → ∀ j, j < k + 1 → lnkE l j = 0) := hid (fun h j hj => by
        by_cases hjk : j < k
        · exact HZ.out j hjk
        · obtain rfl : j = k := by omega
          exact h)
      generalize lnkE l k = ck at *
      obtain ⟨w5, hw5, hb5, hs5, hk5⟩ := box1 wr (SysC s pa ca pc cc) 43
      have HK5 := hid (HK.out.trans hk5)
      have HB5 := hid hb5
      have HTA : Hid (∀ wy, Keep (fun _ => False) w5 wy → TP wy wy.heap.size pa s.after) := hid (fun wy hk => TP.mono (TP.low hta (Low.keep0 (hk5.trans hk))) (hk5.trans hk).size)
      clear hb5 hs5 hk5 hta hvc n1 n2 hca hsk hb
      go_upto_region 4 with fail
      rw [← hw5]
      clear hw5 c0 c1 c2 c3 c4 c5
      generalize wr.heap.size = xb at *
      have HC : Hid (∀ wy, Keep (fun _ => False) w5 wy → wy.cell? ⟨xb, 0, none⟩ = some (.string s.name) ∧ wy.cell? ⟨xb, 1, none⟩ = some (.int .i64 s.stage) ∧ wy.cell? ⟨xb, 2, none⟩ = some (.slice pa s.after.length ca)) := hid (fun wy hk =>
        ⟨cell_of (hk.get HB5.out id) (by rfl), cell_of (hk.get HB5.out id) (by rfl), cell_of (hk.get HB5.out id) (by rfl)⟩)
      obtain ⟨c0, c1, c2⟩ := HC.out _ (Keep.refl _ _)
      go_wp2_with fail
      clear c0 c1 c2
      have hsa := HSA.out
      go_loopw [6, 7, 17] (fun _ _ i wy => ∃ m : Nat, m ≤ s.after.length ∧ i = iV m ∧ Keep (fun _ => False) w5 wy ∧ ∀ j, j < m → (s.after.map (lnkAt l k))[j]? = some 0) (fun _ _ i _ => s.after.length + 1 - (intOf i).toNat)
      case atStart => exact ⟨0, by omega, rfl, Keep.refl _ _, fun j h => by omega⟩
      case round =>
        obtain ⟨m, hm, rfl, hkm, hzm⟩ := hrel
        have HKM := hid hkm; have HZM := hid hzm
        clear hkm hzm
        by_cases hml : m < s.after.length
        rotate_left
        · obtain rfl : m = s.after.length := by omega
          have h0 : ck = 0 := by
            rw [HLK.out]
            apply firstE_none
            intro e he
            obtain ⟨j, hj⟩ := List.getElem?_of_mem he
            have h1 := (List.getElem?_eq_some_iff.1 hj).1
            rw [List.length_map] at h1
            rw [HZM.out j h1] at hj
            injection hj with hj
            exact hj.symm
          have G := hid (HGOOD.out h0)
          have g1 : decide ((s.after.length : Int) < (s.after.length : Int)) = false := decide_eq_false (by omega)
          have g2 : decide (s.after.length < s.after.length) = false := decide_eq_false (by omega)
          have HKF := hid (HK5.out.trans HKM.out)
          clear h0
          go_wp2
          go_roundw
          case rel => exact ⟨k + 1, by omega, by go_num, HKF.out, G.out⟩
          case measure => simp [intOf]; omega
        · obtain ⟨t, htm⟩ : ∃ t, s.after[m]? = some t := ⟨s.after[m], by simp [hml]⟩
          obtain ⟨ab, ao, rfl, hab, d0⟩ := TP.at (HTA.out _ HKM.out) htm
          have hinm : (0 : Int) ≤ (m : Int) ∧ (m : Int) < (s.after.length : Int) := ⟨by omega, by omega⟩
          have HLM : Hid ((s.after.map (lnkAt l k))[m]? = some (lnkAt l k t)) := hid (by rw [List.getElem?_map, htm]; rfl)
          have HLD : Hid (lnkAt l k t = if fnS l t < 0 then 6 else if stS l k < stS l (fdS l t) then 7 else 0) := hid rfl
          have HB2 : Hid (lnkAt l k t ≠ 0 → R = lnkAt l k t) := hid (fun h => by
            have h1 : ck = lnkAt l k t := by rw [HLK.out]; exact firstE_at HLM.out h HZM.out
            rw [HBAD.out (by rw [h1]; exact h), h1])
          have HG2 : Hid (lnkAt l k t = 0 → ∀ j, j < m + 1 → (s.after.map (lnkAt l k))[j]? = some 0) := hid (fun h j hj => by
            by_cases hjm : j < m
            · exact HZM.out j hjm
            · obtain rfl : j = m := by omega
              rw [HLM.out, h])
          clear htm hab
          have HL6 : Hid (l.length ≤ 65536) := hid (by omega)
          go_wp2_with fail
          refine (sd_find l t _ qc _ HL6.out (HSP.out _ (HK5.out.trans HKM.out))).mono ?_
          rintro r w7 ⟨rfl, hk7⟩
          have HKX := hid (HKM.out.trans hk7)
          have HK7 := hid (HK5.out.trans HKX.out)
          clear hk7 d0
          rcases idx_cases (fun x : VSys => decide (x.name = t)) l with hi | ⟨jj, u, hi, hu, _, hjl⟩
          · have hf : fnS l t = -1 := hi
            have h6 : lnkAt l k t = 6 := by rw [HLD.out, hf]; rfl
            have G : Hid (R = 6) := hid (by rw [HB2.out (by rw [h6]; omega), h6])
            rw [hf]
            clear hi hf h6
            go_wp2
            go_ret
            exact ⟨by rw [G.out]; rfl, HK7.out⟩
          · have hf : fnS l t = (jj : Int) := hi
            have hfd : fdS l t = jj := by unfold fdS; rw [hf, Int.toNat_natCast]
            have HLD2 : Hid (lnkAt l k t = if stS l k < stS l jj then 7 else 0) := hid (by rw [HLD.out, hf, hfd, if_neg (by omega)])
            have hinj : (0 : Int) ≤ (jj : Int) ∧ (jj : Int) < (l.length : Int) := ⟨by omega, by omega⟩
            have g0 : decide ((jj : Int) < 0) = false := decide_eq_false (by omega)
            rw [hf]
            clear hi hu hf hfd
            go_upto_region 10 with fail
            clear g0
            have e1 := sys_stage (HSP.out _ HK7.out.drew) hjl
            obtain ⟨c0, c1, c2⟩ := HC.out _ HKX.out.drew
            have HKD := hid HKX.out.drew
            rw [← HST.out] at c1
            generalize stS l jj = sj at *
            generalize stS l k = sk at *
            refine Plan.wp_region_pl [(false, 0, []), (false, 1, []), (false, 2, []), (false, 3, []), (false, 4, []), (false, 5, []), (false, 6, []), (false, 7, [])] (by as_aux_lemma => kernel_rfl) (by as_aux_lemma => kernel_rfl) ?_
            by_cases hst : sk < sj
            · have g1 : decide (sk < sj) = true := decide_eq_true hst
              have h7 : lnkAt l k t = 7 := by rw [HLD2.out, if_pos hst]
              have G : Hid (R = 7) := hid (by rw [HB2.out (by rw [h7]; omega), h7])
              clear h7 hst
              iterate 8 (refine Plan.pl_st rfl ?_; go_big_quiet_step (fail); refine wpQuiet_nil ?_)
              refine Plan.pl_end ?_
              go_wp2
              go_ret
              exact ⟨by rw [G.out]; rfl, HK5.out.trans HKD.out⟩
            · have g1 : decide (sk < sj) = false := decide_eq_false hst
              have h7 : lnkAt l k t = 0 := by rw [HLD2.out, if_neg hst]
              have G := hid (HG2.out h7)
              clear h7 hst
              iterate 8 (refine Plan.pl_st rfl ?_; go_big_quiet_step (fail); refine wpQuiet_nil ?_)
              refine Plan.pl_end ?_
              go_wp2
              go_roundw
              case rel => exact ⟨m + 1, by omega, by go_num, HKD.out, G.out⟩
              case measure => simp [intOf]; omega
end Go.Proofs.Ytcbboaoakgngkaa

namespace Go.Proofs.Heap
open Go.RowKit

theorem owns_set {w : World} {base : Nat} {e : TypeId} {g c n : Nat} {xs : List Value} (h : w.ownsRow base e 1 (.slice (some ⟨g, 0, none⟩) n c) n xs) (k : Nat) (x : Value) (hk : k < n) :
    (w.setCell ⟨g, k, none⟩ x).ownsRow base e 1 (.slice (some ⟨g, 0, none⟩) n c) n (xs.set k x) := by
  rcases owns_block h with ⟨e1, _⟩ | ⟨g', c', cur, e1, hb, hg, hn, hm, hs, ht⟩
  · cases e1
  · injection e1 with e1 _ e2
    injection e1 with e1
    injection e1 with e1
    subst e1; subst e2
    refine ⟨by simpa using h.1, .inr ⟨g, c, _, rfl, hb, hsc_same hg k x, hn, hm, by simpa using hs, ?_⟩⟩
    rw [← ht, Array.toList_setIfInBounds]
    apply List.ext_getElem?
    intro j
    simp only [Nat.mul_one, List.getElem?_take, List.getElem?_set, List.length_take]
    split <;> split <;> simp_all <;> omega

/-- Its first elements. -/
theorem owns_take {w : World} {base : Nat} {e : TypeId} {p : Option Addr} {c n m : Nat} {xs : List Value} (h : w.ownsRow base e 1 (.slice p n c) n xs) (hm : m ≤ n) (hp : p ≠ none) :
    w.ownsRow base e 1 (.slice p m c) m (xs.take m) := by
  rcases owns_block h with ⟨e1, _⟩ | ⟨g', c', cur, e1, hb, hg, hn, hm2, hs, ht⟩
  · injection e1 with e1; exact absurd e1 hp
  · injection e1 with e1 _ e2
    subst e1; subst e2
    have hl := h.1
    refine ⟨by simp; omega, .inr ⟨g', c, cur, rfl, hb, hg, by omega, hm2, hs, ?_⟩⟩
    rw [← ht, List.take_take]
    congr 1
    omega

end Go.Proofs.Heap
