/- What is proved: plain laws of a stage: counts go down as systems are done, and who comes to none is ready. -/
import Derived.Test.YtcbboaoakgngkaaMSdWaits
namespace Go.Proofs.Ytcbboaoakgngkaa
open Go.RowKit Go.Proofs.Heap Go.Proofs.Sch Go.Proofs.HeapLaw

/-- One more passes a test. -/
theorem add_perm {q : Nat} {p p' : Nat → Bool} (h0 : p q = false) (h1 : p' q = true) (hs : ∀ j, j ≠ q → p j = p' j) : ∀ n, q < n → (q :: (List.range n).filter p).Perm ((List.range n).filter p')
  | 0, h => by omega
  | n + 1, h => by
    rw [List.range_succ, List.filter_append, List.filter_append]
    by_cases e : q = n
    · subst e
      have e1 : (List.range q).filter p = (List.range q).filter p' := List.filter_congr (fun j hj => hs j (by have := List.mem_range.1 hj; omega))
      rw [List.filter_cons_of_neg (by rw [h0]; simp), List.filter_cons_of_pos h1, e1]
      simp only [List.filter_nil, List.append_nil]
      exact (List.perm_append_singleton _ _).symm
    · have ih := add_perm h0 h1 hs n (by omega)
      have e1 : [n].filter p = [n].filter p' := List.filter_congr (fun j hj => hs j (by rw [List.mem_singleton.1 hj]; exact Ne.symm e))
      rw [e1, ← List.cons_append]
      exact ih.append_right _
theorem cnt_same {p p' : ByteArray → Bool} {x : ByteArray} (hs : ∀ a, a ≠ x → p a = p' a) : ∀ {L : List ByteArray}, x ∉ L → (L.filter p).length = (L.filter p').length := fun {L} h => by
  rw [List.filter_congr (fun a ha => hs a (fun e => h (e ▸ ha)))]
theorem cnt_less {p p' : ByteArray → Bool} {x : ByteArray} (h0 : p x = true) (h1 : p' x = false) (hs : ∀ a, a ≠ x → p a = p' a) : ∀ {L : List ByteArray}, L.Nodup → x ∈ L → (L.filter p).length = (L.filter p').length + 1
  | [], _, h => by simp at h
  | a :: L, hn, h => by
    obtain ⟨hn1, hn2⟩ := List.nodup_cons.1 hn
    by_cases e : a = x
    · subst e
      rw [List.filter_cons_of_pos h0, List.filter_cons_of_neg (by rw [h1]; simp), List.length_cons, cnt_same hs hn1]
    · have hx : x ∈ L := by
        rcases List.mem_cons.1 h with h | h
        · exact absurd h.symm e
        · exact h
      have ih := cnt_less h0 h1 hs hn2 hx
      rw [List.filter_cons, List.filter_cons, hs a e]
      split
      · rw [List.length_cons, List.length_cons, ih]
      · exact ih
section
variable {l : List VSys}
theorem fd_of (ok : OkS l) {i : Nat} (hi : i < l.length) {a : ByteArray} (ha : a ∈ afS l i) : fdS l a < l.length ∧ nmS l (fdS l a) = a := by
  obtain ⟨j, hf, hj, hn, _⟩ := ok.has i hi a ha
  have : fdS l a = j := by unfold fdS; rw [hf, Int.toNat_natCast]
  rw [this]; exact ⟨hj, hn⟩
theorem fd_name (ok : OkS l) {i q : Nat} (hi : i < l.length) (hq : q < l.length) (h : nmS l q ∈ afS l i) : fdS l (nmS l q) = q := by
  obtain ⟨h1, h2⟩ := fd_of ok hi h
  exact ok.uniq _ _ h1 hq h2
theorem cont_app (out : List Nat) (q j : Nat) : (out ++ [q]).contains j = (out.contains j || decide (j = q)) := by
  apply Bool.eq_iff_iff.2
  rw [Bool.or_eq_true, decide_eq_true_iff, has_c, has_c, List.mem_append, List.mem_singleton]
/-- What is done makes one less to wait for, for whoever goes after it. -/
theorem cnt_down (ok : OkS l) {out : List Nat} {i q : Nat} (hi : i < l.length) (hq : q < l.length) (hqo : q ∉ out) (hst : stS l q = stS l i) (h : nmS l q ∈ afS l i) : cntK l out i = cntK l (out ++ [q]) i + 1 := by
  unfold cntK
  have hf := fd_name ok hi hq h
  have e1 : (afS l i).filter (fun a => decide (stS l (fdS l a) = stS l i) && !(out ++ [q]).contains (fdS l a)) = (afS l i).filter (fun a => (decide (stS l (fdS l a) = stS l i) && !out.contains (fdS l a)) && decide (a ≠ nmS l q)) := by
    apply List.filter_congr
    intro a ha
    rw [cont_app]
    obtain ⟨h1, h2⟩ := fd_of ok hi ha
    have : decide (fdS l a = q) = !decide (a ≠ nmS l q) := by
      by_cases e : a = nmS l q
      · subst e; rw [hf]; simp
      · rw [decide_eq_false (fun h3 => e (by rw [← h2, h3]))]; simp [e]
    rw [this]
    cases decide (stS l (fdS l a) = stS l i) <;> cases out.contains (fdS l a) <;> cases decide (a ≠ nmS l q) <;> rfl
  rw [e1]
  exact cnt_less (x := nmS l q) (by rw [hf, not_c hqo, decide_eq_true hst]; rfl) (by simp) (fun a ha => by simp [ha]) (ok.nodup i hi) h
theorem cnt_stay (ok : OkS l) {out : List Nat} {i q : Nat} (hi : i < l.length) (h : ¬ (stS l q = stS l i ∧ nmS l q ∈ afS l i)) : cntK l (out ++ [q]) i = cntK l out i := by
  unfold cntK
  congr 1
  apply List.filter_congr
  intro a ha
  rw [cont_app]
  obtain ⟨h1, h2⟩ := fd_of ok hi ha
  by_cases e : fdS l a = q
  · have hm : nmS l q ∈ afS l i := by rw [← e, h2]; exact ha
    rw [e, decide_eq_false (fun hs => h ⟨hs, hm⟩)]
    rfl
  · rw [decide_eq_false e, Bool.or_false]
theorem cnt_zero {out : List Nat} {i : Nat} : cntK l out i = 0 ↔ ∀ a ∈ afS l i, stS l (fdS l a) = stS l i → fdS l a ∈ out := by
  unfold cntK
  rw [List.length_eq_zero_iff, List.filter_eq_nil_iff]
  constructor
  · intro h a ha hs
    have := h a ha
    rw [Bool.and_eq_true, decide_eq_true_iff, Bool.not_eq_true', not_and] at this
    apply Classical.byContradiction
    intro hn
    exact this hs (not_c hn)
  · intro h a ha
    rw [Bool.and_eq_true, decide_eq_true_iff, Bool.not_eq_true', not_and]
    intro hs hc
    rw [(has_c _ _).2 (h a ha hs)] at hc; cases hc
theorem inC_cnt {k : Int} {out : List Nat} {i : Nat} : inC l k out i = true ↔ i ∉ out ∧ stS l i = k ∧ cntK l out i = 0 := by
  rw [inC_iff, cnt_zero]
  constructor
  · rintro ⟨h1, h2, h3⟩; exact ⟨h1, h2, fun a ha hs => h3 a ha (by rw [hs, h2])⟩
  · rintro ⟨h1, h2, h3⟩; exact ⟨h1, h2, fun a ha hs => h3 a ha (by rw [hs, h2])⟩
/-- The ready ones while a done one is told to all: those ahead of m have heard. -/
def hpS (l : List VSys) (k : Int) (out : List Nat) (q m j : Nat) : Bool := if j < m then inC l k (out ++ [q]) j else inC l k out j && decide (j ≠ q)
def HPL (l : List VSys) (k : Int) (out : List Nat) (q m : Nat) : List Nat := (List.range l.length).filter (hpS l k out q m)
theorem hpl_start {k : Int} {out : List Nat} {q : Nat} (hq : q ∈ candsK l k out) {A : List Nat} (h : (q :: A).Perm (candsK l k out)) : A.Perm (HPL l k out q 0) := by
  obtain ⟨h1, h2⟩ := cands_mem.1 hq
  have h3 := add_perm (q := q) (p := hpS l k out q 0) (p' := inC l k out) (by unfold hpS; rw [if_neg (by omega)]; simp) h2 (fun j hj => by unfold hpS; rw [if_neg (by omega), decide_eq_true hj, Bool.and_true]) l.length h1
  exact (h.trans h3.symm).cons_inv
theorem hpl_end {k : Int} {out : List Nat} {q : Nat} : HPL l k out q l.length = candsK l k (out ++ [q]) := by
  unfold HPL candsK
  apply List.filter_congr
  intro j hj
  unfold hpS
  rw [if_pos (List.mem_range.1 hj)]
theorem hpS_other {k : Int} {out : List Nat} {q m j : Nat} (h : j ≠ m) : hpS l k out q m j = hpS l k out q (m + 1) j := by
  unfold hpS
  by_cases h1 : j < m
  · rw [if_pos h1, if_pos (by omega)]
  · rw [if_neg h1, if_neg (by omega)]
/-- Who comes to none is ready; all others stay what they were. -/
theorem hpl_stay (ok : OkS l) {k : Int} {out : List Nat} {q m : Nat} (hm : m < l.length) (hqk : stS l q = k) (h : ¬ (stS l m = k ∧ nmS l q ∈ afS l m)) : HPL l k out q (m + 1) = HPL l k out q m := by
  unfold HPL
  apply List.filter_congr
  intro j _
  by_cases e : j = m
  · subst e
    unfold hpS
    rw [if_pos (by omega), if_neg (by omega)]
    have hc := cnt_stay (out := out) ok (i := j) (q := q) hm (fun h2 => h ⟨by rw [← h2.1, hqk], h2.2⟩)
    apply Bool.eq_iff_iff.2
    rw [Bool.and_eq_true, decide_eq_true_iff, inC_cnt, inC_cnt, hc, List.mem_append, List.mem_singleton, not_or]
    constructor
    · rintro ⟨⟨h1, h2⟩, h3⟩; exact ⟨⟨h1, h3⟩, h2⟩
    · rintro ⟨⟨h1, h3⟩, h2⟩; exact ⟨⟨h1, h2⟩, h3⟩
  · exact (hpS_other e).symm
theorem hpl_wait (ok : OkS l) {k : Int} {out : List Nat} {q m : Nat} (hm : m < l.length) (hq : q < l.length) (hqo : q ∉ out) (hqk : stS l q = k) (hmk : stS l m = k) (h : nmS l q ∈ afS l m) (hc : cntK l (out ++ [q]) m ≠ 0) : HPL l k out q (m + 1) = HPL l k out q m := by
  unfold HPL
  apply List.filter_congr
  intro j _
  by_cases e : j = m
  · subst e
    unfold hpS
    rw [if_pos (by omega), if_neg (by omega)]
    have hd := cnt_down (out := out) ok (i := j) (q := q) hm hq hqo (by rw [hqk, hmk]) h
    apply Bool.eq_iff_iff.2
    rw [Bool.and_eq_true, inC_cnt, inC_cnt]
    constructor
    · rintro ⟨_, _, h3⟩; exact absurd h3 hc
    · rintro ⟨⟨_, _, h3⟩, _⟩; omega
  · exact (hpS_other e).symm
theorem hpl_push (ok : OkS l) {k : Int} {out : List Nat} {q m : Nat} (hm : m < l.length) (hq : q < l.length) (hqo : q ∉ out) (hqk : stS l q = k) (hmk : stS l m = k) (h : nmS l q ∈ afS l m) (hmo : m ∈ out → cntK l out m = 0) (hc : cntK l (out ++ [q]) m = 0) : (m :: HPL l k out q m).Perm (HPL l k out q (m + 1)) := by
  have hd := cnt_down (out := out) ok (i := m) (q := q) hm hq hqo (by rw [hqk, hmk]) h
  have hmq : m ≠ q := fun e => by subst e; exact ok.self m hm h
  unfold HPL
  refine add_perm ?_ ?_ (fun j hj => hpS_other hj) l.length hm
  · unfold hpS
    rw [if_neg (by omega)]
    cases h1 : inC l k out m
    · rfl
    · have := (inC_cnt.1 h1).2.2; omega
  · unfold hpS
    rw [if_pos (by omega), inC_cnt]
    refine ⟨fun h1 => ?_, hmk, hc⟩
    rcases List.mem_append.1 h1 with h1 | h1
    · have := hmo h1; omega
    · exact hmq (List.mem_singleton.1 h1)
/-- The ready ones at the start, of the first m. -/
def h0S (l : List VSys) (k : Int) (m j : Nat) : Bool := decide (j < m) && inC l k [] j
def H0L (l : List VSys) (k : Int) (m : Nat) : List Nat := (List.range l.length).filter (h0S l k m)
theorem h0_zero {k : Int} : H0L l k 0 = [] := by
  unfold H0L
  rw [List.filter_eq_nil_iff]
  intro j _
  unfold h0S
  rw [decide_eq_false (by omega)]; simp
theorem h0_other {k : Int} {m j : Nat} (h : j ≠ m) : h0S l k m j = h0S l k (m + 1) j := by
  unfold h0S
  congr 1
  exact decide_eq_decide.2 (by omega)
theorem h0_no {k : Int} {m : Nat} (h : ¬ (stS l m = k ∧ cntK l [] m = 0)) : H0L l k (m + 1) = H0L l k m := by
  unfold H0L
  apply List.filter_congr
  intro j _
  by_cases e : j = m
  · subst e
    unfold h0S
    cases h1 : inC l k [] j
    · simp
    · exact absurd ⟨(inC_cnt.1 h1).2.1, (inC_cnt.1 h1).2.2⟩ h
  · exact (h0_other e).symm
theorem h0_yes {k : Int} {m : Nat} (hm : m < l.length) (h : stS l m = k ∧ cntK l [] m = 0) : (m :: H0L l k m).Perm (H0L l k (m + 1)) := by
  unfold H0L
  refine add_perm ?_ ?_ (fun j hj => h0_other hj) l.length hm
  · unfold h0S; rw [decide_eq_false (by omega)]; rfl
  · unfold h0S; rw [decide_eq_true (by omega), Bool.true_and, inC_cnt]; exact ⟨by simp, h⟩
theorem h0_end {k : Int} : H0L l k l.length = candsK l k [] := by
  unfold H0L candsK
  apply List.filter_congr
  intro j hj
  unfold h0S
  rw [decide_eq_true (List.mem_range.1 hj), Bool.true_and]
/-- The heap's first is the one of the least name. -/
theorem heap_least (ok : OkS l) {k : Int} {out A : List Nat} (hA : A.Perm (candsK l k out)) (hh : Heap (ks l A) A.length) (h0 : 0 < A.length) : leastS l (candsK l k out) = some (at_ A 0) := by
  have hmem : ∀ j, j ∈ A ↔ j ∈ candsK l k out := fun j => hA.mem_iff
  have h1 : at_ A 0 ∈ A := by
    have : at_ A 0 = A[0] := by simp [at_, List.getD, h0]
    rw [this]; exact List.getElem_mem h0
  refine least_eq ok (fun j hj => (cands_mem.1 hj).1) ((hmem _).1 h1) (fun j hj => ?_)
  have hj2 := (hmem j).2 hj
  obtain ⟨i, hi, hij⟩ := List.getElem_of_mem hj2
  have h2 := hh.least i hi
  rw [ks_at l h0, ks_at l hi] at h2
  have h3 : at_ A i = j := by rw [← hij]; simp [at_, List.getD, hi]
  rw [h3] at h2
  rw [rk_lt l (cands_mem.1 hj).1 (cands_mem.1 ((hmem _).1 h1)).1]
  exact decide_eq_false (by omega)
/-- How far a stage has come. -/
structure GoS (l : List VSys) (k : Int) (S out : List Nat) : Prop where
  nodup : out.Nodup
  inn : ∀ i ∈ out, i < l.length ∧ stS l i = k
  zero : ∀ i ∈ out, cntK l out i = 0
  run : runK l k (l.length - out.length) out = S
theorem GoS.start (l : List VSys) (k : Int) : GoS l k (runK l k l.length []) [] := ⟨by simp, by simp, by simp, by simp⟩
theorem GoS.len {k : Int} {S out : List Nat} (h : GoS l k S out) : out.length ≤ l.length := by
  have := sub_len h.nodup (B := List.range l.length) (fun x hx => List.mem_range.2 (h.inn x hx).1)
  rwa [List.length_range] at this
theorem GoS.over {k : Int} {S out : List Nat} (h : GoS l k S out) (hc : candsK l k out = []) : S = out := by
  rw [← h.run]
  cases l.length - out.length with
  | zero => rfl
  | succ f => rw [runK, hc]; rfl
theorem GoS.next (ok : OkS l) {k : Int} {S out : List Nat} (h : GoS l k S out) {q : Nat} (hq : leastS l (candsK l k out) = some q) : GoS l k S (out ++ [q]) ∧ q < l.length ∧ q ∉ out ∧ stS l q = k ∧ q ∈ candsK l k out := by
  have hm := (least_some hq).1
  obtain ⟨h1, h2⟩ := cands_mem.1 hm
  obtain ⟨h3, h4, h5⟩ := inC_cnt.1 h2
  have hn : (out ++ [q]).Nodup := by
    rw [List.nodup_append]
    exact ⟨h.nodup, by simp, fun a ha b hb e => by rw [List.mem_singleton.1 hb] at e; exact h3 (e ▸ ha)⟩
  have hi : ∀ i ∈ out ++ [q], i < l.length ∧ stS l i = k := fun i hi => by
    rcases List.mem_append.1 hi with hi | hi
    · exact h.inn i hi
    · rw [List.mem_singleton.1 hi]; exact ⟨h1, h4⟩
  refine ⟨⟨hn, hi, fun i hio => ?_, ?_⟩, h1, h3, h4, hm⟩
  · have hz : cntK l out i = 0 := by
      rcases List.mem_append.1 hio with hio | hio
      · exact h.zero i hio
      · rw [List.mem_singleton.1 hio]; exact h5
    by_cases hc : stS l q = stS l i ∧ nmS l q ∈ afS l i
    · have := cnt_down (out := out) ok (hi i hio).1 h1 h3 hc.1 hc.2; omega
    · rw [cnt_stay ok (hi i hio).1 hc, hz]
  · have hl := sub_len hn (B := List.range l.length) (fun x hx => List.mem_range.2 (hi x hx).1)
    rw [List.length_range, List.length_append, List.length_singleton] at hl
    have hr := h.run
    obtain ⟨f, hf⟩ : ∃ f, l.length - out.length = f + 1 := ⟨l.length - out.length - 1, by omega⟩
    rw [hf, runK, hq] at hr
    rw [← hr, List.length_append, List.length_singleton]
    congr 1
    omega
end
end Go.Proofs.Ytcbboaoakgngkaa

namespace Go.Proofs.Ytcbboaoakgngkaa
open Go.RowKit Go.Proofs.Heap Go.Proofs.Sch Go.Proofs.HeapLaw

section
variable {B b : Nat} {ql : Option Addr} {qc : Nat} {l : List VSys} {g c : Nat} {A : List Nat}
theorem at_takeS {A : List Nat} {m k : Nat} (hk : k < m) : at_ (A.take m) k = at_ A k := by
  simp [at_, List.getD, hk]
theorem take_atS {A : List Nat} {m : Nat} (h : A.length = m + 1) : A.take m ++ [at_ A m] = A := by
  have e : at_ A m = A[m]'(by omega) := by simp [at_, List.getD, show m < A.length by omega]
  rw [e, ← List.take_succ_eq_append_getElem (by omega), List.take_of_length_le (by omega)]

set_option maxRecDepth 100000 in
set_option maxHeartbeats 2000000 in
theorem h_popS {m : Nat} (w : World) (h : QR w B b ql qc l (some ⟨g, 0, none⟩) c A) (hm : A.length = m + 1) (hh : Heap (ks l A) (m + 1)) :
    Calls Try.prog 78 #[.iface 125 (.pointer (some ⟨b, 0, none⟩))] w fun r w' => r = .returned (.iface 3 (iV (at_ A 0))) ∧
      ∃ A', QR w' B b ql qc l (some ⟨g, 0, none⟩) c A' ∧ (at_ A 0 :: A').Perm A ∧ Heap (ks l A') A'.length ∧ Keep (fun k => k = b ∨ k = g) w w' := by
  have HLEN := rd_len h
  rw [hm] at HLEN
  have HLEN := hid HLEN
  have hmm1 := rm_len w ⟨b, 0, none⟩
  have hmm2 := rm_swap w ⟨b, 0, none⟩
  have HQ := hid h
  have hs := h.small
  have HM := hid hm
  have HSW := hid (swapQ w 0 m 0 (m : Int) h (by omega) (by omega) rfl rfl)
  have hm6 : m ≤ 1000 := by omega
  have hmI : ((m + 1 : Nat) : Int) - 1 = (m : Int) := by omega
  have hmJ : (m : Int) + 1 - 1 = (m : Int) := by omega
  have hb2 : But (ks l (HeapLaw.swap A 0 m)) m 0 := by
    rw [ks_swap l (by omega) (by omega)]
    exact hh.cut (by rw [ks_len]; exact hm)
  have hl2 : (HeapLaw.swap A 0 m).length = m + 1 := by rw [swap_len]; exact hm
  have hp2 : (HeapLaw.swap A 0 m).Perm A := swap_perm (by omega) (by omega)
  have ha2 : at_ (HeapLaw.swap A 0 m) m = at_ A 0 := by rw [at_swap (by omega) (by omega), if_pos rfl]
  generalize HeapLaw.swap A 0 m = A2 at *
  have HB2 := hid hb2; have HL2 := hid hl2; have HP2 := hid hp2; have HA2 := hid ha2
  clear h hm hh hs hb2 hl2 hp2 ha2
  go_enter Try.func78, Try.ntmps78
  go_wp2_with fail
  refine HLEN.out.mono ?_
  rintro r w1 ⟨rfl, rfl⟩
  go_wp2_with fail
  refine HSW.out.mono ?_
  rintro r w1 ⟨rfl, hq2, hk2⟩
  have HQ2 := hid hq2; have HK2 := hid hk2
  clear hq2 hk2 hmm1 hmm2
  go_wp2_with fail
  refine (h_down w1 HQ2.out m (by have := HL2.out; omega) HB2.out).mono ?_
  rintro r w2 ⟨⟨v, rfl⟩, A3, hq3, hp3, hh3, ha3, hk3⟩
  have hl3 : A3.length = m + 1 := hp3.length_eq.trans HL2.out
  have hmp := rm_pop w2 ⟨b, 0, none⟩
  have HPOP := hid (rd_pop hq3 hl3)
  have hres : at_ A3 m = at_ A 0 := (ha3 m (Nat.le_refl _)).trans HA2.out
  rw [hres] at HPOP
  have HK3 := hid ((HK2.out.trans hk3).mono (T := fun k => k = b ∨ k = g) (fun k _ h => .inr h))
  have HFIN : Hid ((at_ A 0 :: A3.take m).Perm A ∧ Heap (ks l (A3.take m)) (A3.take m).length) := hid (by
    have ht : (A3.take m).length = m := by rw [List.length_take]; omega
    constructor
    · have e := take_atS hl3
      rw [hres] at e
      have h1 : (at_ A 0 :: A3.take m).Perm (A3.take m ++ [at_ A 0]) := (List.perm_append_singleton _ _).symm
      rw [e] at h1
      exact h1.trans (hp3.trans HP2.out)
    · rw [ht]
      intro j h0 hj
      have e : ks l (A3.take m) = (ks l A3).take m := by unfold ks; rw [List.map_take]
      rw [e, at_takeS (by omega), at_takeS hj]
      exact hh3 j h0 hj)
  clear hq3 hp3 hh3 ha3 hk3 hl3 hres
  go_wp2_with fail
  refine HPOP.out.mono ?_
  rintro r w3 ⟨rfl, hq4, hk4⟩
  have HQ4 := hid hq4
  have HK4 := hid (HK3.out.trans (hk4.mono (T := fun k => k = b ∨ k = g) (fun k _ h => .inl h)))
  clear hq4 hk4
  go_wp2
  go_ret
  exact ⟨rfl, _, HQ4.out, HFIN.out.1, HFIN.out.2, HK4.out⟩

set_option maxRecDepth 100000 in
set_option maxHeartbeats 2000000 in
theorem h_upS {n j1 : Nat} (w : World) (h : QR w B b ql qc l (some ⟨g, 0, none⟩) c A) (hn : n = A.length) (hj1 : j1 < n) (hb : ButUp (ks l A) n j1) :
    Calls Try.prog 92 #[.iface 125 (.pointer (some ⟨b, 0, none⟩)), .int .i64 j1] w fun r w' => r = .returned (.tuple #[]) ∧
      ∃ A', QR w' B b ql qc l (some ⟨g, 0, none⟩) c A' ∧ A'.Perm A ∧ Heap (ks l A') n ∧ Keep (fun k => k = g) w w' := by
  have hsm := h.small
  have HQ := hid h; have HB := hid hb
  clear h hb
  go_enter Try.func92, Try.ntmps92
  go_wp2
  go_loopw [1] (fun j wr => ∃ (j0 : Nat) (A' : List Nat), j = .int .i64 j0 ∧ QR wr B b ql qc l (some ⟨g, 0, none⟩) c A' ∧ A'.Perm A ∧ ButUp (ks l A') n j0 ∧ Keep (fun k => k = g) w wr ∧ j0 < n) (fun j _ => (intOf j).toNat)
  case atStart => exact ⟨j1, A, rfl, HQ.out, .refl _, HB.out, Keep.refl _ w, hj1⟩
  case round =>
    clear HQ HB
    obtain ⟨j0, A', rfl, hq, hp, hbut, hkeep, hj0⟩ := hrel
    have hlen := hp.length_eq
    have hnl : n ≤ A'.length := by omega
    have hkl : (ks l A').length = A'.length := ks_len l A'
    have hi6 : j0 ≤ 1000 := by omega
    clear hlen
    by_cases hz : j0 = 0
    · subst hz
      have HQ := hid hq; have HP := hid hp; have HB := hid hbut; have HK := hid hkeep
      clear hq hp hbut hkeep
      go_wp2
      go_end0
      exact ⟨rfl, A', HQ.out, HP.out, HB.out.stop (.inl rfl), HK.out⟩
    · have hquo : ((j0 : Int) - 1).tdiv 2 = ((j0 - 1) / 2 : Nat) := by rw [Int.tdiv_eq_ediv_of_nonneg (by omega)]; omega
      have hne : (((((j0 - 1) / 2 : Nat) : Int)) == (j0 : Int)) = false := by simp; omega
      have hm1 := rm_less wr ⟨b, 0, none⟩
      have hm2 := rm_swap wr.drew ⟨b, 0, none⟩
      have HQ := hid hq; have HQd := hid hq.drew; have HP := hid hp; have HB := hid hbut; have HK := hid hkeep
      have hi : (j0 - 1) / 2 < n := by omega
      have hij : (j0 - 1) / 2 ≠ j0 := by omega
      obtain ⟨i, hi0⟩ : ∃ i, i = (j0 - 1) / 2 := ⟨_, rfl⟩
      have HI := hid hi0
      rw [← hi0] at hquo hne hi hij
      clear hq hp hbut hkeep hi0
      by_cases hl : at_ (ks l A') j0 < at_ (ks l A') i
      · go_wp2_with fail
        refine (lessQ wr j0 i _ _ HQ.out (by omega) (by omega) (by omega) (by omega)).mono ?_
        rintro r w3 ⟨rfl, rfl⟩
        go_wp2_with fail
        refine (swapQ wr.drew i j0 _ _ HQd.out (by omega) (by omega) (by omega) (by omega)).mono ?_
        rintro r w3 ⟨rfl, hq3, hk3⟩
        have hb3 : ButUp (ks l (HeapLaw.swap A' i j0)) n i := by rw [ks_swap l (by omega) (by omega)]; exact HB.out.step (by omega) (by omega) hj0 HI.out.symm hl
        have hp3 := (swap_perm (l := A') (i := i) (j := j0) (by omega) (by omega)).trans HP.out
        have hk3' := Keep.trans' (Keep.trans HK.out (((Keep.refl (fun k => k = g) wr).drew))) hk3 (fun _ _ h => h)
        have HQ3 := hid hq3; have HB3 := hid hb3; have HP3 := hid hp3; have HK3 := hid hk3'
        clear hq3 hb3 hp3 hk3 hk3'
        go_wp2
        go_roundw
        case rel => exact ⟨i, _, by go_num, HQ3.out, HP3.out, HB3.out, HK3.out, hi⟩
        case measure => have := HI.out; simp [intOf]; omega
      · go_wp2_with fail
        refine (lessQ wr j0 i _ _ HQ.out (by omega) (by omega) (by omega) (by omega)).mono ?_
        rintro r w3 ⟨rfl, rfl⟩
        go_wp2
        go_end0
        exact ⟨rfl, A', HQd.out, HP.out, HB.out.stop (.inr (by have := HI.out; rw [← this]; omega)), Keep.trans HK.out ((Keep.refl (fun k => k = g) wr).drew)⟩
end

set_option maxRecDepth 100000 in
set_option maxHeartbeats 2000000 in
theorem h_pushS {B b : Nat} {ql : Option Addr} {qc : Nat} {l : List VSys} {p : Option Addr} {c : Nat} {A : List Nat} (w : World) (x : Nat) (h : QR w B b ql qc l p c A) (hx : x < l.length) (hA : A.length ≤ 900) (hh : Heap (ks l A) A.length) :
    Calls Try.prog 76 #[.iface 125 (.pointer (some ⟨b, 0, none⟩)), .iface 3 (iV x)] w fun r w' => r = .returned (.tuple #[]) ∧
      ∃ p' c' A', QR w' B b ql qc l p' c' A' ∧ A'.Perm (A ++ [x]) ∧ Heap (ks l A') A'.length ∧ ((Value.slice p' A'.length c').ownBlock = (Value.slice p A.length c).ownBlock ∨ ∃ k, (Value.slice p' A'.length c').ownBlock = some k ∧ w.heap.size ≤ k) ∧ Keep (fun k => k = b ∨ (Value.slice p A.length c).ownBlock = some k) w w' := by
  have hmp := rm_push w ⟨b, 0, none⟩
  have HP := hid (rd_push h hx hA)
  have HUP : Hid (ButUp (ks l (A ++ [x])) (A.length + 1) A.length) := hid (by
    have e : ks l (A ++ [x]) = ks l A ++ [rkS l x] := by unfold ks; rw [List.map_append]; rfl
    rw [e]
    have h2 := Heap.push (l := ks l A) (by rw [ks_len]; exact hh) (rkS l x)
    rw [ks_len] at h2
    exact h2)
  have hbw : b < w.heap.size := lt_of_heap h.box
  clear h hh
  go_enter Try.func76, Try.ntmps76
  go_wp2_with fail
  refine HP.out.mono ?_
  rintro r w1 ⟨rfl, p1, c1, hq1, hg1, hk1⟩
  have hlen : (A ++ [x]).length = A.length + 1 := by rw [List.length_append]; rfl
  have HLEN := rd_len hq1
  have hq1' := hq1
  rw [hlen] at HLEN hg1
  obtain ⟨g1, rfl⟩ := owns_some hq1.own (by rw [hlen]; omega)
  have HLEN := hid HLEN
  have hm2 := rm_len w1 ⟨b, 0, none⟩
  have HUPC := hid (h_upS w1 hq1 hlen.symm (j1 := A.length) (by omega) HUP.out)
  have HK1 := hid hk1; have HG1 := hid hg1
  have hc1 : ((A.length + 1 : Nat) : Int) - 1 = (A.length : Int) := by omega
  have hc2 : (A.length : Int) + 1 - 1 = (A.length : Int) := by omega
  clear hq1 hq1' hk1 hg1 hmp HP HUP hlen
  go_wp2_with fail
  refine HLEN.out.mono ?_
  rintro r w2 ⟨rfl, rfl⟩
  go_wp2_with fail
  refine HUPC.out.mono ?_
  rintro r w2 ⟨rfl, A', hq', hp', hh', hk'⟩
  have hl' : A'.length = A.length + 1 := by rw [hp'.length_eq, List.length_append]; rfl
  have HFIN : Hid (∃ p' c' A', QR w2 B b ql qc l p' c' A' ∧ A'.Perm (A ++ [x]) ∧ Heap (ks l A') A'.length ∧ ((Value.slice p' A'.length c').ownBlock = (Value.slice p A.length c).ownBlock ∨ ∃ k, (Value.slice p' A'.length c').ownBlock = some k ∧ w.heap.size ≤ k) ∧ Keep (fun k => k = b ∨ (Value.slice p A.length c).ownBlock = some k) w w2) := hid (by
    refine ⟨_, c1, A', hq', hp', by rw [hl']; exact hh', by rw [hl']; exact HG1.out, HK1.out.trans' hk' ?_⟩
    intro i hi e
    subst e
    rcases HG1.out with h | ⟨k, h, hk⟩
    · exact .inr h.symm
    · have : some i = some k := by rw [← h]; rfl
      injection this with this
      omega)
  clear hq' hp' hh' hk' hl'
  go_wp2
  go_end0
  exact ⟨rfl, HFIN.out⟩
end Go.Proofs.Ytcbboaoakgngkaa

namespace Go.Proofs.Ytcbboaoakgngkaa
open Go.RowKit Go.Proofs.Heap Go.Proofs.Sch Go.Proofs.HeapLaw

/-- A stage's state, in memory. -/
structure StS (w0 w : World) (gl cl b : Nat) (ql : Option Addr) (qc : Nat) (l : List VSys) (p : Option Addr) (c : Nat) (A : List Nat) (po : Option Addr) (co : Nat) (out : List Nat) (left : List Nat) : Prop where
  q : QR w w0.heap.size b ql qc l p c A
  lf : w.ownsRow w0.heap.size 3 1 (.slice (some ⟨gl, 0, none⟩) l.length cl) l.length (left.map iV)
  ou : w.ownsRow w0.heap.size 3 1 (.slice po out.length co) out.length (out.map iV)
  n1 : gl ≠ b
  n2 : (Value.slice p A.length c).ownBlock ≠ some gl
  n3 : (Value.slice po out.length co).ownBlock ≠ some gl
  n4 : (Value.slice po out.length co).ownBlock ≠ some b
  n5 : ∀ k, (Value.slice po out.length co).ownBlock = some k → (Value.slice p A.length c).ownBlock ≠ some k
  keep : Keep (fun _ => False) w0 w
section
variable {w0 w w' : World} {gl cl b : Nat} {ql : Option Addr} {qc : Nat} {l : List VSys} {p : Option Addr} {c : Nat} {A : List Nat} {po : Option Addr} {co : Nat} {out left : List Nat}
theorem QR.keep {B : Nat} (h : QR w B b ql qc l p c A) (hk : Keep (fun _ => False) w w') : QR w' B b ql qc l p c A :=
  ⟨hk.get h.box id, owns_keep h.own (fun j hj => hk.block j (h.own.lt j hj).2 id), h.ne, h.low, h.small, h.inn, SP.low h.sys (fun j hj => hk.block j (by have := h.low; have := lt_of_heap h.box; omega) id)⟩
theorem StS.kept (h : StS w0 w gl cl b ql qc l p c A po co out left) (hk : Keep (fun _ => False) w w') : StS w0 w' gl cl b ql qc l p c A po co out left :=
  ⟨h.q.keep hk, owns_keep h.lf (fun j hj => hk.block j (h.lf.lt j hj).2 id), owns_keep h.ou (fun j hj => hk.block j (h.ou.lt j hj).2 id), h.n1, h.n2, h.n3, h.n4, h.n5, h.keep.trans hk⟩
theorem StS.heaped (h : StS w0 w gl cl b ql qc l p c A po co out left) {p' : Option Addr} {c' : Nat} {A' : List Nat} (hq : QR w' w0.heap.size b ql qc l p' c' A')
    (hb : (Value.slice p' A'.length c').ownBlock = (Value.slice p A.length c).ownBlock ∨ ∃ k, (Value.slice p' A'.length c').ownBlock = some k ∧ w.heap.size ≤ k) (hk : Keep (fun k => k = b ∨ (Value.slice p A.length c).ownBlock = some k) w w') : StS w0 w' gl cl b ql qc l p' c' A' po co out left := by
  have hgl := (h.lf.lt gl rfl).2
  refine ⟨hq, ?_, ?_, h.n1, ?_, h.n3, h.n4, ?_, h.keep.trans' hk ?_⟩
  · refine owns_keep h.lf (fun j hj => hk.block j (h.lf.lt j hj).2 ?_)
    simp [Value.ownBlock] at hj
    subst hj
    rintro (e | e)
    · exact h.n1 e
    · exact h.n2 e
  · refine owns_keep h.ou (fun j hj => hk.block j (h.ou.lt j hj).2 ?_)
    rintro (e | e)
    · subst e; exact h.n4 hj
    · exact h.n5 j hj e
  · rcases hb with e | ⟨k, e, hk2⟩
    · rw [e]; exact h.n2
    · rw [e]; intro e2; injection e2 with e2; omega
  · intro j hj
    rcases hb with e | ⟨k, e, hk2⟩
    · rw [e]; exact h.n5 j hj
    · rw [e]; intro e2; injection e2 with e2
      have := (h.ou.lt j hj).2
      omega
  · intro i hi hh
    rcases hh with e | e
    · have := h.q.low; omega
    · have := (h.q.own.lt i e).1; omega
theorem StS.setLeft (h : StS w0 w gl cl b ql qc l p c A po co out left) {i : Nat} (hi : i < l.length) (x : Nat) : StS w0 (w.setCell ⟨gl, i, none⟩ (iV x)) gl cl b ql qc l p c A po co out (left.set i x) := by
  have hlow := (h.lf.lt gl rfl).1
  refine ⟨⟨?_, ?_, h.q.ne, h.q.low, h.q.small, h.q.inn, ?_⟩, ?_, ?_, h.n1, h.n2, h.n3, h.n4, h.n5, h.keep.setCell_new (p := ⟨gl, i, none⟩) hlow _⟩
  · rw [hsc_ne _ (Ne.symm h.n1)]; exact h.q.box
  · exact owns_keep h.q.own (fun j hj => hsc_ne _ (fun e => h.n2 (e ▸ hj)))
  · exact SP.low h.q.sys (fun j hj => hsc_ne _ (by omega))
  · have := owns_set h.lf i (iV x) hi
    rw [List.map_set]; exact this
  · exact owns_keep h.ou (fun j hj => hsc_ne _ (fun e => h.n3 (e ▸ hj)))
theorem StS.leftAt (h : StS w0 w gl cl b ql qc l p c A po co out left) {i x : Nat} (hi : i < l.length) (hx : left[i]? = some x) : w.cell? ⟨gl, i, none⟩ = some (iV x) := by
  rw [owns_cell h.lf hi, List.getElem?_map, hx]; rfl
theorem StS.grown (h : StS w0 w gl cl b ql qc l p c A po co out left) {po' : Option Addr} {co' : Nat} {q : Nat} {u : Obj} (hown : w'.ownsRow w0.heap.size 3 1 (.slice po' (out.length + 1) co') (out.length + 1) (out.map iV ++ [iV q]))
    (hg : (w.alloc u).grownBy w' (Value.slice po out.length co).ownBlock) (hat : (Value.slice po' (out.length + 1) co').ownBlock = (Value.slice po out.length co).ownBlock ∨ (Value.slice po' (out.length + 1) co').ownBlock = some (w.alloc u).heap.size) :
    StS w0 w' gl cl b ql qc l p c A po' co' (out ++ [q]) left := by
  have hk : Keep (fun k => (Value.slice po out.length co).ownBlock = some k) w w' := ((Keep.refl _ w).alloc u).grown hg (fun k hk => .inr hk)
  have hlen : (out ++ [q]).length = out.length + 1 := by rw [List.length_append]; rfl
  have hbw := lt_of_heap h.q.box
  have hgl := (h.lf.lt gl rfl).2
  have hsz : (w.alloc u).heap.size = w.heap.size + 1 := by simp
  refine ⟨⟨?_, ?_, h.q.ne, h.q.low, h.q.small, h.q.inn, ?_⟩, ?_, ?_, h.n1, h.n2, ?_, ?_, ?_, h.keep.trans' hk ?_⟩
  · rw [hk.block b hbw h.n4]; exact h.q.box
  · exact owns_keep h.q.own (fun j hj => hk.block j (h.q.own.lt j hj).2 (fun e => h.n5 j e hj))
  · exact SP.low h.q.sys (fun j hj => hk.block j (by have := h.q.low; omega) (fun e => by have := (h.ou.lt j e).1; omega))
  · exact owns_keep h.lf (fun j hj => hk.block j (h.lf.lt j hj).2 (by simp [Value.ownBlock] at hj; subst hj; exact h.n3))
  · rw [hlen, List.map_append]; exact hown
  · rw [hlen]
    rcases hat with e | e
    · rw [e]; exact h.n3
    · rw [e]; intro e2; injection e2 with e2; omega
  · rw [hlen]
    rcases hat with e | e
    · rw [e]; exact h.n4
    · rw [e]; intro e2; injection e2 with e2; omega
  · rw [hlen]
    intro j hj
    rcases hat with e | e
    · rw [e] at hj; exact h.n5 j hj
    · rw [e] at hj
      injection hj with hj
      intro e2
      have := (h.q.own.lt j e2).2
      omega
  · intro i hi e
    have := (h.ou.lt i e).1
    omega
end

theorem as_any (w : World) (v : Value) : (Instr.typeAssert (.iface 3 v) 20 3 false).run Try.prog w = .ok v w := by kernel_rfl
theorem mem_any (s : ByteArray) (L : List ByteArray) : memS s L = true ↔ s ∈ L := by
  unfold memS
  rw [List.any_eq_true]
  constructor
  · rintro ⟨t, ht, h⟩; rw [of_decide_eq_true h]; exact ht
  · intro h; exact ⟨s, h, decide_eq_true rfl⟩
def lenV : Value → Nat
  | .slice _ n _ => n
  | _ => 0
/-- The counts while a done one is told to all. -/
def lmS (l : List VSys) (out : List Nat) (q m : Nat) : List Nat := (List.range l.length).map (fun j => if j < m then cntK l (out ++ [q]) j else cntK l out j)
theorem lm_zero (l : List VSys) (out : List Nat) (q : Nat) : lmS l out q 0 = (List.range l.length).map (cntK l out) := List.map_congr_left (fun j _ => by rw [if_neg (by omega)])
theorem lm_end (l : List VSys) (out : List Nat) (q : Nat) : lmS l out q l.length = (List.range l.length).map (cntK l (out ++ [q])) := List.map_congr_left (fun j hj => by rw [if_pos (List.mem_range.1 hj)])
theorem lm_at {l : List VSys} {out : List Nat} {q m : Nat} (h : m < l.length) : (lmS l out q m)[m]? = some (cntK l out m) := by
  unfold lmS
  rw [List.getElem?_map, List.getElem?_range h]; simp
theorem lm_set {l : List VSys} {out : List Nat} {q m : Nat} (h : m < l.length) : (lmS l out q m).set m (cntK l (out ++ [q]) m) = lmS l out q (m + 1) := by
  apply List.ext_getElem?
  intro j
  have hlen : (lmS l out q m).length = l.length := by unfold lmS; rw [List.length_map, List.length_range]
  by_cases e : m = j
  · subst e
    rw [List.getElem?_set_self (by rw [hlen]; exact h)]
    unfold lmS
    rw [List.getElem?_map, List.getElem?_range h]; simp
  · rw [List.getElem?_set_ne e]
    unfold lmS
    rw [List.getElem?_map, List.getElem?_map]
    by_cases hj : j < l.length
    · rw [List.getElem?_range hj]
      simp only [Option.map_some]
      by_cases h1 : j < m
      · rw [if_pos h1, if_pos (by omega)]
      · rw [if_neg h1, if_neg (by omega)]
    · rw [List.getElem?_eq_none (by rw [List.length_range]; omega)]; rfl
theorem lm_new {l : List VSys} {out : List Nat} {q m : Nat} (h : m < l.length) : (lmS l out q (m + 1))[m]? = some (cntK l (out ++ [q]) m) := by
  unfold lmS
  rw [List.getElem?_map, List.getElem?_range h]; simp
theorem lm_same {l : List VSys} {out : List Nat} {q m : Nat} (h : cntK l (out ++ [q]) m = cntK l out m) : lmS l out q (m + 1) = lmS l out q m := List.map_congr_left (fun j _ => by
  by_cases h1 : j < m
  · rw [if_pos h1, if_pos (by omega)]
  · by_cases e : j = m
    · subst e; rw [if_neg h1, if_pos (by omega), h]
    · rw [if_neg h1, if_neg (by omega)])
theorem cntK_le {l : List VSys} {out : List Nat} {i : Nat} {s : VSys} (hs : l[i]? = some s) : cntK l out i ≤ s.after.length := by
  unfold cntK
  rw [afS_at hs]
  exact List.length_filter_le _ _

set_option maxRecDepth 20000 in
set_option maxHeartbeats 32000000 in
theorem sd_stage (l : List VSys) (k : Int) (q : Option Addr) (qc : Nat) (w : World) (ok : OkS l) (hl : l.length ≤ 100) (ha : ∀ s ∈ l, s.after.length ≤ 1000) (hs : SP w w.heap.size q l) :
    Calls Try.prog 48 #[.slice q l.length qc, .int .i64 k] w fun r w' => ∃ a c, r = .returned (.slice a (runK l k l.length []).length c) ∧ w'.ownsRow w.heap.size 3 1 (.slice a (runK l k l.length []).length c) (runK l k l.length []).length ((runK l k l.length []).map iV) ∧ Keep (fun _ => False) w w' := by
  have HSP : Hid (∀ wy, Keep (fun _ => False) w wy → SP wy w.heap.size q l) := hid (fun wy hk => SP.low hs (Low.keep0 hk))
  have HOK := hid ok; have HAF := hid ha
  have HWT := hid (sd_waits l q qc w (by omega) ha (fun i hi a ha => by obtain ⟨j, h1, h2, _⟩ := ok.has i hi a ha; exact ⟨j, h1, h2⟩) hs)
  have HGO0 := hid (GoS.start l k)
  generalize runK l k l.length [] = S at *
  clear hs ha ok
  go_enter Try.func48, Try.ntmps48
  go_wp2_with fail
  refine HWT.out.mono ?_
  rintro r w1 ⟨gl, cl, rfl, hown, hk1⟩
  obtain ⟨w2, hw2, hb2, hs2, hk2⟩ := box1 w1 #[.slice q l.length qc, .slice none 0 0] 127
  have hst : StS w w2 gl cl w1.heap.size q qc l none 0 [] none 0 [] ((List.range l.length).map (cntK l [])) := by
    have hgl := hown.lt gl rfl
    refine ⟨⟨hb2, World.ownsRow_nil _ _ _ _, by simp [Value.ownBlock], hk1.size, by simp, by simp, HSP.out _ (hk1.trans hk2)⟩, owns_keep hown (fun j hj => hk2.block j (hown.lt j hj).2 id), World.ownsRow_nil _ _ _ _, by omega, by simp [Value.ownBlock], by simp [Value.ownBlock], by simp [Value.ownBlock], by simp [Value.ownBlock], hk1.trans hk2⟩
  have HST := hid hst
  clear hown hk1 hb2 hs2 hk2 HWT hst
  go_upto_region 3 with fail
  rw [← hw2]
  clear hw2
  generalize w1.heap.size = b at *
  go_wp2_with fail
  go_loopw [7, 8, 20] (fun _ _ i wr => ∃ (m : Nat) (p : Option Addr) (c : Nat) (A : List Nat), m ≤ l.length ∧ i = iV m ∧ StS w wr gl cl b q qc l p c A none 0 [] ((List.range l.length).map (cntK l [])) ∧ A.Perm (H0L l k m) ∧ Heap (ks l A) A.length) (fun _ _ i _ => l.length + 1 - (intOf i).toNat)
  case atStart => exact ⟨0, none, 0, [], by omega, rfl, HST.out, by rw [h0_zero], fun j h0 hj => absurd hj (by simp)⟩
  case round =>
    clear HST
    obtain ⟨m, p, c, A, hm, rfl, hst, hperm, hheap⟩ := hrel
    have HST := hid hst; have HPE := hid hperm; have HHE := hid hheap
    clear hst hperm hheap
    by_cases hlt : m < l.length
    · obtain ⟨s, hsk⟩ : ∃ s, l[m]? = some s := ⟨l[m], by simp [hlt]⟩
      have HSA := hid (HAF.out s (List.mem_of_getElem? hsk))
      have HCL := hid (cntK_le (out := []) hsk)
      obtain ⟨lb, lo, pa, ca, pc, cc, rfl, hb, c0, c1, c2, c3, c4, c5, n1, n2, hca, hta, hvc⟩ := SP.at (HSP.out _ HST.out.keep) hsk
      have hin : (0 : Int) ≤ (m : Int) ∧ (m : Int) < (l.length : Int) := ⟨by omega, by omega⟩
      have HSG : Hid (stS l m = s.stage) := hid (stS_at hsk)
      obtain ⟨w5, hw5, hb5, hs5, hk5⟩ := box1 wr (SysC s pa ca pc cc) 43
      have HST5 := hid (HST.out.kept hk5)
      have HAT : Hid (((List.range l.length).map (cntK l []))[m]? = some (cntK l [] m)) := hid (by rw [List.getElem?_map, List.getElem?_range hlt]; rfl)
      have HLEN : Hid (A.length ≤ 100) := hid (by
        rw [HPE.out.length_eq]
        exact Nat.le_trans (List.length_filter_le _ _) (by rw [List.length_range]; exact hl))
      have y1 : w5.cell? ⟨wr.heap.size, 1, none⟩ = some (.int .i64 s.stage) := cell_of hb5 (by rfl)
      have r0 := HST5.out.leftAt hlt HAT.out
      have HNO := hid (h0_no (l := l) (k := k) (m := m))
      have HYES := hid (h0_yes (l := l) (k := k) (m := m) hlt)
      rw [HSG.out] at HNO HYES
      clear hb5 hs5 hk5 hta hvc n1 n2 hca hsk hb HST
      go_upto_region 6 with fail
      rw [← hw5]
      clear hw5 c0 c1 c2 c3 c4 c5
      generalize wr.heap.size = xb at *
      have hcl : cntK l [] m ≤ 1000 := by have := HCL.out; have := HSA.out; omega
      generalize cntK l [] m = cm at *
      by_cases hsk : s.stage = k
      rotate_left
      · have g1 : (s.stage == k) = false := beq_eq_false_iff_ne.2 hsk
        have G := hid (HNO.out (fun h => hsk h.1))
        clear hsk
        go_wp2
        go_roundw
        case rel => exact ⟨m + 1, p, c, A, by omega, by go_num, HST5.out, by rw [G.out]; exact HPE.out, HHE.out⟩
        case measure => simp [intOf]; omega
      have g1 : (s.stage == k) = true := beq_iff_eq.2 hsk
      by_cases hc0 : cm = 0
      rotate_left
      · have g2 : ((cm : Int) == 0) = false := beq_eq_false_iff_ne.2 (by omega)
        have g3 : (cm == 0) = false := beq_eq_false_iff_ne.2 hc0
        have G := hid (HNO.out (fun h => hc0 h.2))
        clear hsk
        go_wp2
        go_roundw
        case rel => exact ⟨m + 1, p, c, A, by omega, by go_num, HST5.out, by rw [G.out]; exact HPE.out, HHE.out⟩
        case measure => simp [intOf]; omega
      have G := hid (HYES.out ⟨hsk, hc0⟩)
      subst hc0
      have HPU := hid (h_pushS w5 m HST5.out.q hlt (by have := HLEN.out; omega) HHE.out)
      clear hsk
      go_wp2_with fail
      refine HPU.out.mono ?_
      rintro r w6 ⟨rfl, p', c', A', hq', hp', hh', hb', hk'⟩
      have HST6 := hid (HST5.out.heaped hq' hb' hk')
      have HPE6 := hid ((hp'.trans (List.perm_append_singleton _ _)).trans ((HPE.out.cons m).trans G.out))
      have HHE6 := hid hh'
      clear hq' hp' hh' hb' hk' HPU r0 y1
      go_wp2
      go_roundw
      case rel => exact ⟨m + 1, p', c', A', by omega, by go_num, HST6.out, HPE6.out, HHE6.out⟩
      case measure => simp [intOf]; omega
    obtain rfl : m = l.length := by omega
    have HPE1 : Hid (A.Perm (candsK l k [])) := hid (by rw [← h0_end]; exact HPE.out)
    have g1 : decide ((l.length : Int) < (l.length : Int)) = false := decide_eq_false (by omega)
    have g2 : decide (l.length < l.length) = false := decide_eq_false (by omega)
    go_wp2_with fail
    clear g1 g2 HPE
    go_loopw [9, 10, 11, 12] (fun o _ _ _ wr => ∃ (p : Option Addr) (c : Nat) (A : List Nat) (po : Option Addr) (co : Nat) (out : List Nat), o = .slice po out.length co ∧ StS w wr gl cl b q qc l p c A po co out ((List.range l.length).map (cntK l out)) ∧ A.Perm (candsK l k out) ∧ Heap (ks l A) A.length ∧ GoS l k S out) (fun o _ _ _ _ => 101 - lenV o)
    case atStart => exact ⟨p, c, A, none, 0, [], rfl, HST.out, HPE1.out, HHE.out, HGO0.out⟩
    case round =>
      clear HST HPE1 HHE HGO0
      obtain ⟨p, c, A, po, co, out, rfl, hst, hperm, hheap, hgo⟩ := hrel
      have HST := hid hst; have HPE := hid hperm; have HHE := hid hheap; have HGO := hid hgo
      have HOL := hid hgo.len
      have HLEN := hid (rd_len hst.q)
      have HALE : Hid (A.length ≤ 100) := hid (by
        rw [hperm.length_eq]
        exact Nat.le_trans (List.length_filter_le _ _) (by rw [List.length_range]; exact hl))
      clear hst hperm hheap hgo
      go_wp2_with fail
      refine HLEN.out.mono ?_
      rintro r w_ ⟨rfl, rfl⟩
      clear HLEN
      by_cases hA0 : A.length = 0
      · have hA : A = [] := List.eq_nil_of_length_eq_zero hA0
        have G := hid (HGO.out.over (by have := HPE.out; rw [hA] at this; exact this.symm.eq_nil))
        have g1 : decide ((0 : Int) < (A.length : Int)) = false := decide_eq_false (by omega)
        have g2 : decide (0 < A.length) = false := decide_eq_false (by omega)
        clear hA hA0
        go_wp2
        go_ret
        rw [G.out]
        exact ⟨po, co, rfl, HST.out.ou, HST.out.keep⟩
      have g1 : decide ((0 : Int) < (A.length : Int)) = true := decide_eq_true (by omega)
      have g2 : decide (0 < A.length) = true := decide_eq_true (by omega)
      obtain ⟨m, hm⟩ : ∃ m, A.length = m + 1 := ⟨A.length - 1, by omega⟩
      obtain ⟨g, rfl⟩ := owns_some HST.out.q.own (by omega)
      have HPOP := hid (h_popS wr HST.out.q hm (by rw [← hm]; exact HHE.out))
      have HLS := hid (heap_least HOK.out HPE.out HHE.out (by omega))
      generalize at_ A 0 = qn at *
      obtain ⟨hgn, hqn, hqo, hqk, hqc⟩ := HGO.out.next HOK.out HLS.out
      have HGN := hid hgn; have HQO := hid hqo; have HQK := hid hqk; have HQC := hid hqc
      clear hgn hqo hqk hqc hA0 hm HLS
      go_wp2_with fail
      refine HPOP.out.mono ?_
      rintro r w3 ⟨rfl, A3, hq3, hp3, hh3, hk3⟩
      have HST3 := hid (HST.out.heaped hq3 (.inl rfl) (hk3.mono (fun j _ h => by
        rcases h with h | h
        · exact .inl h
        · exact .inr (by rw [h]; rfl))))
      have HPE3 := hid (hpl_start HQC.out (hp3.trans HPE.out))
      have HHE3 := hid hh3
      have hta := as_any w3 (iV qn)
      clear hq3 hp3 hh3 hk3 HPOP g1 g2 HST HPE HHE
      have hol : out.length ≤ 100 := by have := HOL.out; omega
      obtain ⟨i0, hi0, hz0, hz1, hz2⟩ := info_parts' info_intS
      have HI := hid (And.intro hi0 (And.intro hz0 (And.intro hz1 hz2)))
      clear hi0 hz0 hz1 hz2
      go_upto_region 13 with (at_builtin; go_loud (refine wpList_append_rd rfl _ _ _ rfl w.heap.size _ i0 _ 1 8 Try.underlying24 HI.out.1 HI.out.2.1 HI.out.2.2.1 HI.out.2.2.2 rfl (by decide) _ out.length _ (by rfl) (HST3.out.ou.alloc _) _ 1 [iV qn] (by rfl) (rd_block (heap_alloc_new w3 _) (by simp) (by simp [Value.oneCell'])) (by unfold maxLen; omega) (by omega) (by have := HST3.out.keep.size; simp; omega) ?_; intro v' w4 hown4 hgrow4 hat4 hn4; obtain ⟨vp, ve, rfl⟩ := owns_val hown4; have HST4 := hid (HST3.out.grown hown4 hgrow4 hat4); clear hown4 hgrow4 hat4 hn4))
      clear hta HST3
      have HO2 : Hid ((out ++ [qn]).length = out.length + 1) := hid (by rw [List.length_append]; rfl)
      have HLM0 := hid (lm_zero l out qn)
      have HLME := hid (lm_end l out qn)
      have HPEE := hid (hpl_end (l := l) (k := k) (out := out) (q := qn))
      have HZR := hid HGO.out.zero
      have HST4' : Hid (StS w w4 gl cl b q qc l (some ⟨g, 0, none⟩) c A3 vp ve (out ++ [qn]) (lmS l out qn 0)) := hid (by rw [HLM0.out]; exact HST4.out)
      clear HST4 HLM0
      go_wp2_with fail
      go_loopw [11, 12, 55] (fun _ _ i wy => ∃ (m : Nat) (p : Option Addr) (c : Nat) (A : List Nat), m ≤ l.length ∧ i = iV m ∧ StS w wy gl cl b q qc l p c A vp ve (out ++ [qn]) (lmS l out qn m) ∧ A.Perm (HPL l k out qn m) ∧ Heap (ks l A) A.length) (fun _ _ i _ => l.length + 1 - (intOf i).toNat)
      case atStart => exact ⟨0, _, c, A3, by omega, rfl, HST4'.out, HPE3.out, HHE3.out⟩
      case round =>
        clear HST4' HPE3 HHE3
        obtain ⟨m, p, c, A, hm, rfl, hst, hperm, hheap⟩ := hrel
        have HST := hid hst; have HPE := hid hperm; have HHE := hid hheap
        clear hst hperm hheap
        by_cases hlt : m < l.length
        rotate_left
        · obtain rfl : m = l.length := by omega
          have HSTF : Hid (StS w wr gl cl b q qc l p c A vp ve (out ++ [qn]) ((List.range l.length).map (cntK l (out ++ [qn])))) := hid (by rw [← HLME.out]; exact HST.out)
          have HPEF : Hid (A.Perm (candsK l k (out ++ [qn]))) := hid (by rw [← HPEE.out]; exact HPE.out)
          have g1 : decide ((l.length : Int) < (l.length : Int)) = false := decide_eq_false (by omega)
          have g2 : decide (l.length < l.length) = false := decide_eq_false (by omega)
          go_wp2
          go_roundw
          case rel => exact ⟨p, c, A, vp, ve, out ++ [qn], by rw [HO2.out], HSTF.out, HPEF.out, HHE.out, HGN.out⟩
          case measure => simp [lenV]; omega
        · obtain ⟨s, hsk⟩ : ∃ s, l[m]? = some s := ⟨l[m], by simp [hlt]⟩
          obtain ⟨lb, lo, pa, ca, pc, cc, rfl, hb, c0, c1, c2, c3, c4, c5, n1, n2, hca, hta, hvc⟩ := SP.at (HSP.out _ HST.out.keep) hsk
          have hin : (0 : Int) ≤ (m : Int) ∧ (m : Int) < (l.length : Int) := ⟨by omega, by omega⟩
          have hinq : (0 : Int) ≤ (qn : Int) ∧ (qn : Int) < (l.length : Int) := ⟨by omega, by omega⟩
          have HSG : Hid (stS l m = s.stage) := hid (stS_at hsk)
          have HAS : Hid (afS l m = s.after) := hid (afS_at hsk)
          have HSA := hid (HAF.out s (List.mem_of_getElem? hsk))
          have HCL := hid (cntK_le (out := out) hsk)
          obtain ⟨w5, hw5, hb5, hs5, hk5⟩ := box1 wr (SysC s pa ca pc cc) 43
          have HST5 := hid (HST.out.kept (hk5.trans (Keep.refl _ w5).drew))
          have HTA : Hid (TP w5.drew w5.drew.heap.size pa s.after) := hid (TP.mono (TP.low hta (fun b' hb' => hk5.block b' (Nat.lt_of_lt_of_le hb' HST.out.keep.size) id)) (Nat.le_trans HST.out.keep.size hk5.size))
          have y1 : w5.drew.cell? ⟨wr.heap.size, 1, none⟩ = some (.int .i64 s.stage) := cell_of (show w5.drew.heap[wr.heap.size]? = _ from hb5) (by rfl)
          have y2 : w5.drew.cell? ⟨wr.heap.size, 2, none⟩ = some (.slice pa s.after.length ca) := cell_of (show w5.drew.heap[wr.heap.size]? = _ from hb5) (by rfl)
          have HLEN : Hid (A.length ≤ 100) := hid (by
            rw [HPE.out.length_eq]
            exact Nat.le_trans (List.length_filter_le _ _) (by rw [List.length_range]; exact hl))
          have e1 := sys_name (HSP.out _ HST5.out.keep) hqn
          clear hb5 hs5 hk5 hta hvc n1 n2 hca hsk hb HST
          go_upto_region 16 with fail
          rw [← hw5]
          clear hw5 c0 c1 c2 c3 c4 c5
          generalize wr.heap.size = xb at *
          refine Plan.wp_region_pl [(false, 0, []), (false, 1, []), (false, 2, []), (false, 3, []), (false, 4, []), (false, 5, []), (false, 6, []), (false, 7, []), (false, 8, []), (false, 9, []), (false, 10, []), (false, 11, []), (true, 12, []), (false, 13, [])] (by as_aux_lemma => kernel_rfl) (by as_aux_lemma => kernel_rfl) ?_
          generalize w5.drew = wd at *
          by_cases hsk : s.stage = k
          rotate_left
          · have g1 : (s.stage == k) = false := beq_eq_false_iff_ne.2 hsk
            have hno : ¬ (stS l m = k ∧ nmS l qn ∈ afS l m) := fun h => hsk (by rw [← HSG.out]; exact h.1)
            have G1 := hid (hpl_stay (out := out) HOK.out hlt HQK.out hno)
            have G2 := hid (lm_same (l := l) (out := out) (cnt_stay (out := out) HOK.out hlt (fun h => hno ⟨by rw [← h.1, HQK.out], h.2⟩)))
            clear hsk hno
            iterate 12 (refine Plan.pl_st rfl ?_; go_big_quiet_step (fail); refine wpQuiet_nil ?_)
            refine Plan.pl_ac rfl ?_
            go_wp2
            refine Plan.plQ_mk Plan.chk_end ?_
            iterate 1 (refine Plan.pl_st rfl ?_; go_big_quiet_step (fail); refine wpQuiet_nil ?_)
            refine Plan.pl_end ?_
            clear y1 y2 e1
            go_wp2
            go_roundw
            case rel => exact ⟨m + 1, p, c, A, by omega, by go_num, by rw [G2.out]; exact HST5.out, by rw [G1.out]; exact HPE.out, HHE.out⟩
            case measure => simp [intOf]; omega
          have g1 : (s.stage == k) = true := beq_iff_eq.2 hsk
          have HMK : Hid (stS l m = k) := hid (by rw [HSG.out]; exact hsk)
          clear hsk
          have HCS := hid (contains_str s.after (nmS l qn) pa ca wd (by have := HSA.out; omega) HTA.out)
          iterate 12 (refine Plan.pl_st rfl ?_; go_big_quiet_step (fail); refine wpQuiet_nil ?_)
          refine Plan.pl_ac rfl ?_
          go_wp2_with fail
          refine HCS.out.mono ?_
          rintro r w_ ⟨rfl, rfl⟩
          go_wp2
          refine Plan.plQ_mk Plan.chk_end ?_
          cases hmem : memS (nmS l qn) s.after
          · have hno : ¬ (stS l m = k ∧ nmS l qn ∈ afS l m) := fun h => by
              have h2 := h.2
              rw [HAS.out, ← mem_any, hmem] at h2
              cases h2
            have G1 := hid (hpl_stay (out := out) HOK.out hlt HQK.out hno)
            have G2 := hid (lm_same (l := l) (out := out) (cnt_stay (out := out) HOK.out hlt (fun h => hno ⟨by rw [← h.1, HQK.out], h.2⟩)))
            clear hno hmem
            iterate 1 (refine Plan.pl_st rfl ?_; go_big_quiet_step (fail); refine wpQuiet_nil ?_)
            refine Plan.pl_end ?_
            clear y1 y2 e1 HCS
            go_wp2
            go_roundw
            case rel => exact ⟨m + 1, p, c, A, by omega, by go_num, by rw [G2.out]; exact HST5.out, by rw [G1.out]; exact HPE.out, HHE.out⟩
            case measure => simp [intOf]; omega
          have HMEM : Hid (nmS l qn ∈ afS l m) := hid (by rw [HAS.out]; exact (mem_any _ _).1 hmem)
          have HDN := hid (cnt_down (out := out) HOK.out hlt hqn HQO.out (by rw [HQK.out, HMK.out]) HMEM.out)
          clear hmem HCS
          iterate 1 (refine Plan.pl_st rfl ?_; go_big_quiet_step (fail); refine wpQuiet_nil ?_)
          refine Plan.pl_end ?_
          clear y1 y2 e1 g1
          have HATM := hid (lm_at (l := l) (out := out) (q := qn) hlt)
          have HSETM := hid (lm_set (l := l) (out := out) (q := qn) hlt)
          have HWAIT := hid (hpl_wait (out := out) HOK.out hlt hqn HQO.out HQK.out HMK.out HMEM.out)
          have HPUSH := hid (hpl_push (out := out) HOK.out hlt hqn HQO.out HQK.out HMK.out HMEM.out (HZR.out m))
          have r0 := HST5.out.leftAt hlt HATM.out
          have f0 : wd.frozen? ⟨gl, m, none⟩ = false := owns_free HST5.out.lf m
          rw [HDN.out] at r0
          have HCB : Hid (cntK l (out ++ [qn]) m ≤ 1000) := hid (by have := HDN.out; have := HCL.out; have := HSA.out; omega)
          have hst6 := HST5.out.setLeft hlt (cntK l (out ++ [qn]) m)
          rw [HSETM.out] at hst6
          have HST6 := hid hst6
          have HATN := hid (lm_new (l := l) (out := out) (q := qn) hlt)
          clear HDN HATM HSETM HST5 hst6
          generalize cntK l (out ++ [qn]) m = cn at *
          have hcb := HCB.out
          have hdec : ((cn + 1 : Nat) : Int) - 1 = (cn : Int) := by omega
          have hdec2 : (cn : Int) + 1 - 1 = (cn : Int) := by omega
          go_upto_region 18 with fail
          clear r0 f0 hdec hdec2
          generalize wd.setCell ⟨gl, m, none⟩ (iV cn) = we at *
          have r1 := HST6.out.leftAt hlt HATN.out
          by_cases hc0 : cn = 0
          rotate_left
          · have g1 : ((cn : Int) == 0) = false := beq_eq_false_iff_ne.2 (by omega)
            have g2 : (cn == 0) = false := beq_eq_false_iff_ne.2 hc0
            have G := hid (HWAIT.out hc0)
            go_wp2
            go_roundw
            case rel => exact ⟨m + 1, p, c, A, by omega, by go_num, HST6.out, by rw [G.out]; exact HPE.out, HHE.out⟩
            case measure => simp [intOf]; omega
          have G := hid (HPUSH.out hc0)
          subst hc0
          have HPU := hid (h_pushS we m HST6.out.q hlt (by have := HLEN.out; omega) HHE.out)
          go_wp2_with fail
          refine HPU.out.mono ?_
          rintro r w6 ⟨rfl, p', c', A', hq', hp', hh', hb', hk'⟩
          have HST7 := hid (HST6.out.heaped hq' hb' hk')
          have HPE7 := hid ((hp'.trans (List.perm_append_singleton _ _)).trans ((HPE.out.cons m).trans G.out))
          have HHE7 := hid hh'
          clear hq' hp' hh' hb' hk' HPU r1
          go_wp2
          go_roundw
          case rel => exact ⟨m + 1, p', c', A', by omega, by go_num, HST7.out, HPE7.out, HHE7.out⟩
          case measure => simp [intOf]; omega
end Go.Proofs.Ytcbboaoakgngkaa
