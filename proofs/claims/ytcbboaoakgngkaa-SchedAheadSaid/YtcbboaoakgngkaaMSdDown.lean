/- What is proved: heap.down over the ready systems: the heap's order is there again, the systems are the same. -/
import Derived.Test.YtcbboaoakgngkaaMSdLinks
namespace Go.Proofs.Ytcbboaoakgngkaa
open Go.RowKit Go.Proofs.Heap Go.Proofs.Sch Go.Proofs.HeapLaw

/-- The ranks. -/
def ks (l : List VSys) (A : List Nat) : List Nat := A.map (rkS l)
theorem ks_len (l : List VSys) (A : List Nat) : (ks l A).length = A.length := List.length_map _
theorem ks_at (l : List VSys) {A : List Nat} {i : Nat} (h : i < A.length) : at_ (ks l A) i = rkS l (at_ A i) := at_map _ h
theorem ks_swap (l : List VSys) {A : List Nat} {i j : Nat} (hi : i < A.length) (hj : j < A.length) : ks l (HeapLaw.swap A i j) = HeapLaw.swap (ks l A) i j := swap_map _ hi hj

theorem lessQ {B b : Nat} {ql : Option Addr} {qc : Nat} {l : List VSys} {p : Option Addr} {c : Nat} {A : List Nat} (w : World) (i j : Nat) (I J : Int) (h : QR w B b ql qc l p c A) (hi : i < A.length) (hj : j < A.length) (hI : I = (i : Int)) (hJ : J = (j : Int)) :
    Calls Try.prog 129 #[.pointer (some ⟨b, 0, none⟩), .int .i64 I, .int .i64 J] w fun r w' => r = .returned (.bool (decide (at_ (ks l A) i < at_ (ks l A) j))) ∧ w.drew = w' := by
  subst hI; subst hJ
  rw [ks_at l hi, ks_at l hj]
  exact rd_less h hi hj
theorem swapQ {B b : Nat} {ql : Option Addr} {qc : Nat} {l : List VSys} {g c : Nat} {A : List Nat} (w : World) (i j : Nat) (I J : Int) (h : QR w B b ql qc l (some ⟨g, 0, none⟩) c A) (hi : i < A.length) (hj : j < A.length) (hI : I = (i : Int)) (hJ : J = (j : Int)) :
    Calls Try.prog 132 #[.pointer (some ⟨b, 0, none⟩), .int .i64 I, .int .i64 J] w fun r w' => r = .returned (.tuple #[]) ∧ QR w' B b ql qc l (some ⟨g, 0, none⟩) c (HeapLaw.swap A i j) ∧ Keep (fun k => k = g) w w' := by
  subst hI; subst hJ
  exact rd_swap h hi hj

set_option maxRecDepth 100000 in
set_option maxHeartbeats 2000000 in
theorem h_down {B b : Nat} {ql : Option Addr} {qc : Nat} {l : List VSys} {g c : Nat} {A : List Nat} (w : World) (h : QR w B b ql qc l (some ⟨g, 0, none⟩) c A) (n : Nat) (hn : n ≤ A.length) (hb : But (ks l A) n 0) :
    Calls Try.prog 93 #[.iface 125 (.pointer (some ⟨b, 0, none⟩)), .int .i64 0, .int .i64 (n : Int)] w fun r w' => (∃ v, r = .returned v) ∧
      ∃ A', QR w' B b ql qc l (some ⟨g, 0, none⟩) c A' ∧ A'.Perm A ∧ Heap (ks l A') n ∧ (∀ k, n ≤ k → at_ A' k = at_ A k) ∧ Keep (fun k => k = g) w w' := by
  have hsm := h.small
  have HQ := hid h; have HB := hid hb
  clear h hb
  go_enter Try.func93, Try.ntmps93
  go_wp2
  go_loopw [7] (fun i wr => ∃ (i0 : Nat) (A' : List Nat), i = .int .i64 i0 ∧ QR wr B b ql qc l (some ⟨g, 0, none⟩) c A' ∧ A'.Perm A ∧ But (ks l A') n i0 ∧ (∀ k, n ≤ k → at_ A' k = at_ A k) ∧ Keep (fun k => k = g) w wr ∧ (i0 = 0 ∨ i0 < n)) (fun i _ => n - (intOf i).toNat)
  case atStart => exact ⟨0, A, rfl, HQ.out, .refl _, HB.out, fun _ _ => rfl, Keep.refl _ w, .inl rfl⟩
  case round =>
    clear HQ HB
    obtain ⟨i0, A', rfl, hq, hp, hbut, hsame, hkeep, hi0⟩ := hrel
    have hlen := hp.length_eq
    have hnl : n ≤ A'.length := by omega
    have hkl : (ks l A').length = A'.length := ks_len l A'
    have hi6 : i0 ≤ 65536 := by omega
    clear hlen
    by_cases hend : n ≤ 2 * i0 + 1
    · have HQ := hid hq; have HP := hid hp; have HB := hid hbut; have HS := hid hsame; have HK := hid hkeep
      clear hq hp hbut hsame hkeep
      go_wp2
      go_ret
      exact ⟨⟨_, rfl⟩, A', HQ.out, HP.out, HB.out.stop (fun j h0 hj hp => by omega), HS.out, HK.out⟩
    · have hc1 : 2 * i0 + 1 < n := by omega
      have hm1 := rm_less wr ⟨b, 0, none⟩
      have hm2 := rm_less wr.drew ⟨b, 0, none⟩
      have hm3 := rm_swap wr.drew ⟨b, 0, none⟩
      have hm4 := rm_swap wr.drew.drew ⟨b, 0, none⟩
      have HQ := hid hq; have HQd := hid hq.drew; have HQdd := hid hq.drew.drew; have HP := hid hp; have HB := hid hbut; have HS := hid hsame; have HK := hid hkeep
      clear hq hp hbut hsame hkeep
      by_cases h2 : 2 * i0 + 2 < n
      · by_cases hlt : at_ (ks l A') (2 * i0 + 2) < at_ (ks l A') (2 * i0 + 1)
        · by_cases hl : at_ (ks l A') (2 * i0 + 2) < at_ (ks l A') i0
          · go_wp2_with fail
            refine (lessQ wr (2 * i0 + 2) (2 * i0 + 1) _ _ HQ.out (by omega) (by omega) (by omega) (by omega)).mono ?_
            rintro r w3 ⟨rfl, rfl⟩
            go_wp2_with fail
            refine (lessQ wr.drew (2 * i0 + 2) i0 _ _ HQd.out (by omega) (by omega) (by omega) (by omega)).mono ?_
            rintro r w3 ⟨rfl, rfl⟩
            go_wp2_with fail
            refine (swapQ wr.drew.drew i0 (2 * i0 + 2) _ _ HQdd.out (by omega) (by omega) (by omega) (by omega)).mono ?_
            rintro r w3 ⟨rfl, hq3, hk3⟩
            have hb3 : But (ks l (HeapLaw.swap A' i0 (2 * i0 + 2))) n (2 * i0 + 2) := by rw [ks_swap l (by omega) (by omega)]; exact HB.out.step (by omega) (by omega) (by omega) (by omega) hl (fun k h0 hk hp => by rcases (show k = 2 * i0 + 1 ∨ k = 2 * i0 + 2 by omega) with e | e <;> rw [e] <;> omega)
            have hs3 : ∀ k, n ≤ k → at_ (HeapLaw.swap A' i0 (2 * i0 + 2)) k = at_ A k := fun k hk => by rw [at_swap (by omega) (by omega), if_neg (by omega), if_neg (by omega)]; exact HS.out k hk
            have hp3 := (swap_perm (l := A') (i := i0) (j := (2 * i0 + 2)) (by omega) (by omega)).trans HP.out
            have hk3' := Keep.trans' (Keep.trans HK.out (((Keep.refl (fun k => k = g) wr).drew.drew))) hk3 (fun _ _ h => h)
            have HQ3 := hid hq3; have HB3 := hid hb3; have HS3 := hid hs3; have HP3 := hid hp3; have HK3 := hid hk3'
            clear hq3 hb3 hs3 hp3 hk3 hk3'
            go_wp2
            go_roundw
            case rel => exact ⟨(2 * i0 + 2), _, by go_num, HQ3.out, HP3.out, HB3.out, HS3.out, HK3.out, .inr (by omega)⟩
            case measure => simp [intOf]; omega
          · go_wp2_with fail
            refine (lessQ wr (2 * i0 + 2) (2 * i0 + 1) _ _ HQ.out (by omega) (by omega) (by omega) (by omega)).mono ?_
            rintro r w3 ⟨rfl, rfl⟩
            go_wp2_with fail
            refine (lessQ wr.drew (2 * i0 + 2) i0 _ _ HQd.out (by omega) (by omega) (by omega) (by omega)).mono ?_
            rintro r w3 ⟨rfl, rfl⟩
            go_wp2
            go_ret
            exact ⟨⟨_, rfl⟩, A', HQdd.out, HP.out, HB.out.stop (fun k h0 hk hp => Nat.le_trans (Nat.le_of_not_lt hl) (by rcases (show k = 2 * i0 + 1 ∨ k = 2 * i0 + 2 by omega) with e | e <;> rw [e] <;> omega)), HS.out, Keep.trans HK.out ((Keep.refl (fun k => k = g) wr).drew.drew)⟩
        · by_cases hl : at_ (ks l A') (2 * i0 + 1) < at_ (ks l A') i0
          · go_wp2_with fail
            refine (lessQ wr (2 * i0 + 2) (2 * i0 + 1) _ _ HQ.out (by omega) (by omega) (by omega) (by omega)).mono ?_
            rintro r w3 ⟨rfl, rfl⟩
            go_wp2_with fail
            refine (lessQ wr.drew (2 * i0 + 1) i0 _ _ HQd.out (by omega) (by omega) (by omega) (by omega)).mono ?_
            rintro r w3 ⟨rfl, rfl⟩
            go_wp2_with fail
            refine (swapQ wr.drew.drew i0 (2 * i0 + 1) _ _ HQdd.out (by omega) (by omega) (by omega) (by omega)).mono ?_
            rintro r w3 ⟨rfl, hq3, hk3⟩
            have hb3 : But (ks l (HeapLaw.swap A' i0 (2 * i0 + 1))) n (2 * i0 + 1) := by rw [ks_swap l (by omega) (by omega)]; exact HB.out.step (by omega) (by omega) (by omega) (by omega) hl (fun k h0 hk hp => by rcases (show k = 2 * i0 + 1 ∨ k = 2 * i0 + 2 by omega) with e | e <;> rw [e] <;> omega)
            have hs3 : ∀ k, n ≤ k → at_ (HeapLaw.swap A' i0 (2 * i0 + 1)) k = at_ A k := fun k hk => by rw [at_swap (by omega) (by omega), if_neg (by omega), if_neg (by omega)]; exact HS.out k hk
            have hp3 := (swap_perm (l := A') (i := i0) (j := (2 * i0 + 1)) (by omega) (by omega)).trans HP.out
            have hk3' := Keep.trans' (Keep.trans HK.out (((Keep.refl (fun k => k = g) wr).drew.drew))) hk3 (fun _ _ h => h)
            have HQ3 := hid hq3; have HB3 := hid hb3; have HS3 := hid hs3; have HP3 := hid hp3; have HK3 := hid hk3'
            clear hq3 hb3 hs3 hp3 hk3 hk3'
            go_wp2
            go_roundw
            case rel => exact ⟨(2 * i0 + 1), _, by go_num, HQ3.out, HP3.out, HB3.out, HS3.out, HK3.out, .inr (by omega)⟩
            case measure => simp [intOf]; omega
          · go_wp2_with fail
            refine (lessQ wr (2 * i0 + 2) (2 * i0 + 1) _ _ HQ.out (by omega) (by omega) (by omega) (by omega)).mono ?_
            rintro r w3 ⟨rfl, rfl⟩
            go_wp2_with fail
            refine (lessQ wr.drew (2 * i0 + 1) i0 _ _ HQd.out (by omega) (by omega) (by omega) (by omega)).mono ?_
            rintro r w3 ⟨rfl, rfl⟩
            go_wp2
            go_ret
            exact ⟨⟨_, rfl⟩, A', HQdd.out, HP.out, HB.out.stop (fun k h0 hk hp => Nat.le_trans (Nat.le_of_not_lt hl) (by rcases (show k = 2 * i0 + 1 ∨ k = 2 * i0 + 2 by omega) with e | e <;> rw [e] <;> omega)), HS.out, Keep.trans HK.out ((Keep.refl (fun k => k = g) wr).drew.drew)⟩
      · by_cases hl : at_ (ks l A') (2 * i0 + 1) < at_ (ks l A') i0
        · go_wp2_with fail
          refine (lessQ wr (2 * i0 + 1) i0 _ _ HQ.out (by omega) (by omega) (by omega) (by omega)).mono ?_
          rintro r w3 ⟨rfl, rfl⟩
          go_wp2_with fail
          refine (swapQ wr.drew i0 (2 * i0 + 1) _ _ HQd.out (by omega) (by omega) (by omega) (by omega)).mono ?_
          rintro r w3 ⟨rfl, hq3, hk3⟩
          have hb3 : But (ks l (HeapLaw.swap A' i0 (2 * i0 + 1))) n (2 * i0 + 1) := by rw [ks_swap l (by omega) (by omega)]; exact HB.out.step (by omega) (by omega) (by omega) (by omega) hl (fun k h0 hk hp => by rw [show k = 2 * i0 + 1 by omega]; exact Nat.le_refl _)
          have hs3 : ∀ k, n ≤ k → at_ (HeapLaw.swap A' i0 (2 * i0 + 1)) k = at_ A k := fun k hk => by rw [at_swap (by omega) (by omega), if_neg (by omega), if_neg (by omega)]; exact HS.out k hk
          have hp3 := (swap_perm (l := A') (i := i0) (j := (2 * i0 + 1)) (by omega) (by omega)).trans HP.out
          have hk3' := Keep.trans' (Keep.trans HK.out (((Keep.refl (fun k => k = g) wr).drew))) hk3 (fun _ _ h => h)
          have HQ3 := hid hq3; have HB3 := hid hb3; have HS3 := hid hs3; have HP3 := hid hp3; have HK3 := hid hk3'
          clear hq3 hb3 hs3 hp3 hk3 hk3'
          go_wp2
          go_roundw
          case rel => exact ⟨(2 * i0 + 1), _, by go_num, HQ3.out, HP3.out, HB3.out, HS3.out, HK3.out, .inr (by omega)⟩
          case measure => simp [intOf]; omega
        · go_wp2_with fail
          refine (lessQ wr (2 * i0 + 1) i0 _ _ HQ.out (by omega) (by omega) (by omega) (by omega)).mono ?_
          rintro r w3 ⟨rfl, rfl⟩
          go_wp2
          go_ret
          exact ⟨⟨_, rfl⟩, A', HQd.out, HP.out, HB.out.stop (fun k h0 hk hp => Nat.le_trans (Nat.le_of_not_lt hl) (by rw [show k = 2 * i0 + 1 by omega]; exact Nat.le_refl _)), HS.out, Keep.trans HK.out ((Keep.refl (fun k => k = g) wr).drew)⟩

end Go.Proofs.Ytcbboaoakgngkaa

namespace Go.Proofs.Ytcbboaoakgngkaa
open Go.RowKit Go.Proofs.Heap Go.Proofs.Sch Go.Proofs.HeapLaw

/-- One more passes a test. -/
theorem add_perm {q : Nat} {p p' : Nat → Bool} (h0 : p q = false) (h1 : p' q = true) (hs : ∀ j, j ≠ q → p j = p' j) : ∀ n, q < n → (q :: (List.range n).filter p).Perm ((List.range n).filter p')
  | 0, h => by omega
  | n + 1, h => by
    rw [List.range_succ, List.filter_append, List.filter_append]
    by_cases e : q = n
    · subst e
      have e1 : (List.range q).filter p = (List.range q).filter p' := List.filter_congr (fun j hj => hs j (by have := List.mem_range.1 hj; omega))
      rw [List.filter_cons_of_neg (by rw [h0]; simp), List.filter_cons_of_pos h1, e1]
      simp only [List.filter_nil, List.append_nil]
      exact (List.perm_append_singleton _ _).symm
    · have ih := add_perm h0 h1 hs n (by omega)
      have e1 : [n].filter p = [n].filter p' := List.filter_congr (fun j hj => hs j (by rw [List.mem_singleton.1 hj]; exact Ne.symm e))
      rw [e1, ← List.cons_append]
      exact ih.append_right _
theorem cnt_same {p p' : ByteArray → Bool} {x : ByteArray} (hs : ∀ a, a ≠ x → p a = p' a) : ∀ {L : List ByteArray}, x ∉ L → (L.filter p).length = (L.filter p').length := fun {L} h => by
  rw [List.filter_congr (fun a ha => hs a (fun e => h (e ▸ ha)))]
theorem cnt_less {p p' : ByteArray → Bool} {x : ByteArray} (h0 : p x = true) (h1 : p' x = false) (hs : ∀ a, a ≠ x → p a = p' a) : ∀ {L : List ByteArray}, L.Nodup → x ∈ L → (L.filter p).length = (L.filter p').length + 1
  | [], _, h => by simp at h
  | a :: L, hn, h => by
    obtain ⟨hn1, hn2⟩ := List.nodup_cons.1 hn
    by_cases e : a = x
    · subst e
      rw [List.filter_cons_of_pos h0, List.filter_cons_of_neg (by rw [h1]; simp), List.length_cons, cnt_same hs hn1]
    · have hx : x ∈ L := by
        rcases List.mem_cons.1 h with h | h
        · exact absurd h.symm e
        · exact h
      have ih := cnt_less h0 h1 hs hn2 hx
      rw [List.filter_cons, List.filter_cons, hs a e]
      split
      · rw [List.length_cons, List.length_cons, ih]
      · exact ih
section
variable {l : List VSys}
theorem fd_of (ok : OkS l) {i : Nat} (hi : i < l.length) {a : ByteArray} (ha : a ∈ afS l i) : fdS l a < l.length ∧ nmS l (fdS l a) = a := by
  obtain ⟨j, hf, hj, hn, _⟩ := ok.has i hi a ha
  have : fdS l a = j := by unfold fdS; rw [hf, Int.toNat_natCast]
  rw [this]; exact ⟨hj, hn⟩
theorem fd_name (ok : OkS l) {i q : Nat} (hi : i < l.length) (hq : q < l.length) (h : nmS l q ∈ afS l i) : fdS l (nmS l q) = q := by
  obtain ⟨h1, h2⟩ := fd_of ok hi h
  exact ok.uniq _ _ h1 hq h2
theorem cont_app (out : List Nat) (q j : Nat) : (out ++ [q]).contains j = (out.contains j || decide (j = q)) := by
  apply Bool.eq_iff_iff.2
  rw [Bool.or_eq_true, decide_eq_true_iff, has_c, has_c, List.mem_append, List.mem_singleton]
/-- What is done makes one less to wait for, for whoever goes after it. -/
theorem cnt_down (ok : OkS l) {out : List Nat} {i q : Nat} (hi : i < l.length) (hq : q < l.length) (hqo : q ∉ out) (hst : stS l q = stS l i) (h : nmS l q ∈ afS l i) : cntK l out i = cntK l (out ++ [q]) i + 1 := by
  unfold cntK
  have hf := fd_name ok hi hq h
  have e1 : (afS l i).filter (fun a => decide (stS l (fdS l a) = stS l i) && !(out ++ [q]).contains (fdS l a)) = (afS l i).filter (fun a => (decide (stS l (fdS l a) = stS l i) && !out.contains (fdS l a)) && decide (a ≠ nmS l q)) := by
    apply List.filter_congr
    intro a ha
    rw [cont_app]
    obtain ⟨h1, h2⟩ := fd_of ok hi ha
    have : decide (fdS l a = q) = !decide (a ≠ nmS l q) := by
      by_cases e : a = nmS l q
      · subst e; rw [hf]; simp
      · rw [decide_eq_false (fun h3 => e (by rw [← h2, h3]))]; simp [e]
    rw [this]
    cases decide (stS l (fdS l a) = stS l i) <;> cases out.contains (fdS l a) <;> cases decide (a ≠ nmS l q) <;> rfl
  rw [e1]
  exact cnt_less (x := nmS l q) (by rw [hf, not_c hqo, decide_eq_true hst]; rfl) (by simp) (fun a ha => by simp [ha]) (ok.nodup i hi) h
theorem cnt_stay (ok : OkS l) {out : List Nat} {i q : Nat} (hi : i < l.length) (h : ¬ (stS l q = stS l i ∧ nmS l q ∈ afS l i)) : cntK l (out ++ [q]) i = cntK l out i := by
  unfold cntK
  congr 1
  apply List.filter_congr
  intro a ha
  rw [cont_app]
  obtain ⟨h1, h2⟩ := fd_of ok hi ha
  by_cases e : fdS l a = q
  · have hm : nmS l q ∈ afS l i := by rw [← e, h2]; exact ha
    rw [e, decide_eq_false (fun hs => h ⟨hs, hm⟩)]
    rfl
  · rw [decide_eq_false e, Bool.or_false]
theorem cnt_zero {out : List Nat} {i : Nat} : cntK l out i = 0 ↔ ∀ a ∈ afS l i, stS l (fdS l a) = stS l i → fdS l a ∈ out := by
  unfold cntK
  rw [List.length_eq_zero_iff, List.filter_eq_nil_iff]
  constructor
  · intro h a ha hs
    have := h a ha
    rw [Bool.and_eq_true, decide_eq_true_iff, Bool.not_eq_true', not_and] at this
    apply Classical.byContradiction
    intro hn
    exact this hs (not_c hn)
  · intro h a ha
    rw [Bool.and_eq_true, decide_eq_true_iff, Bool.not_eq_true', not_and]
    intro hs hc
    rw [(has_c _ _).2 (h a ha hs)] at hc; cases hc
theorem inC_cnt {k : Int} {out : List Nat} {i : Nat} : inC l k out i = true ↔ i ∉ out ∧ stS l i = k ∧ cntK l out i = 0 := by
  rw [inC_iff, cnt_zero]
  constructor
  · rintro ⟨h1, h2, h3⟩; exact ⟨h1, h2, fun a ha hs => h3 a ha (by rw [hs, h2])⟩
  · rintro ⟨h1, h2, h3⟩; exact ⟨h1, h2, fun a ha hs => h3 a ha (by rw [hs, h2])⟩
/-- The ready ones while a done one is told to all: those ahead of m have heard. -/
def hpS (l : List VSys) (k : Int) (out : List Nat) (q m j : Nat) : Bool := if j < m then inC l k (out ++ [q]) j else inC l k out j && decide (j ≠ q)
def HPL (l : List VSys) (k : Int) (out : List Nat) (q m : Nat) : List Nat := (List.range l.length).filter (hpS l k out q m)
theorem hpl_start {k : Int} {out : List Nat} {q : Nat} (hq : q ∈ candsK l k out) {A : List Nat} (h : (q :: A).Perm (candsK l k out)) : A.Perm (HPL l k out q 0) := by
  obtain ⟨h1, h2⟩ := cands_mem.1 hq
  have h3 := add_perm (q := q) (p := hpS l k out q 0) (p' := inC l k out) (by unfold hpS; rw [if_neg (by omega)]; simp) h2 (fun j hj => by unfold hpS; rw [if_neg (by omega), decide_eq_true hj, Bool.and_true]) l.length h1
  exact (h.trans h3.symm).cons_inv
theorem hpl_end {k : Int} {out : List Nat} {q : Nat} : HPL l k out q l.length = candsK l k (out ++ [q]) := by
  unfold HPL candsK
  apply List.filter_congr
  intro j hj
  unfold hpS
  rw [if_pos (List.mem_range.1 hj)]
theorem hpS_other {k : Int} {out : List Nat} {q m j : Nat} (h : j ≠ m) : hpS l k out q m j = hpS l k out q (m + 1) j := by
  unfold hpS
  by_cases h1 : j < m
  · rw [if_pos h1, if_pos (by omega)]
  · rw [if_neg h1, if_neg (by omega)]
/-- Who comes to none is ready; all others stay what they were. -/
theorem hpl_stay (ok : OkS l) {k : Int} {out : List Nat} {q m : Nat} (hm : m < l.length) (hqk : stS l q = k) (h : ¬ (stS l m = k ∧ nmS l q ∈ afS l m)) : HPL l k out q (m + 1) = HPL l k out q m := by
  unfold HPL
  apply List.filter_congr
  intro j _
  by_cases e : j = m
  · subst e
    unfold hpS
    rw [if_pos (by omega), if_neg (by omega)]
    have hc := cnt_stay (out := out) ok (i := j) (q := q) hm (fun h2 => h ⟨by rw [← h2.1, hqk], h2.2⟩)
    apply Bool.eq_iff_iff.2
    rw [Bool.and_eq_true, decide_eq_true_iff, inC_cnt, inC_cnt, hc, List.mem_append, List.mem_singleton, not_or]
    constructor
    · rintro ⟨⟨h1, h2⟩, h3⟩; exact ⟨⟨h1, h3⟩, h2⟩
    · rintro ⟨⟨h1, h3⟩, h2⟩; exact ⟨⟨h1, h2⟩, h3⟩
  · exact (hpS_other e).symm
theorem hpl_wait (ok : OkS l) {k : Int} {out : List Nat} {q m : Nat} (hm : m < l.length) (hq : q < l.length) (hqo : q ∉ out) (hqk : stS l q = k) (hmk : stS l m = k) (h : nmS l q ∈ afS l m) (hc : cntK l (out ++ [q]) m ≠ 0) : HPL l k out q (m + 1) = HPL l k out q m := by
  unfold HPL
  apply List.filter_congr
  intro j _
  by_cases e : j = m
  · subst e
    unfold hpS
    rw [if_pos (by omega), if_neg (by omega)]
    have hd := cnt_down (out := out) ok (i := j) (q := q) hm hq hqo (by rw [hqk, hmk]) h
    apply Bool.eq_iff_iff.2
    rw [Bool.and_eq_true, inC_cnt, inC_cnt]
    constructor
    · rintro ⟨_, _, h3⟩; exact absurd h3 hc
    · rintro ⟨⟨_, _, h3⟩, _⟩; omega
  · exact (hpS_other e).symm
theorem hpl_push (ok : OkS l) {k : Int} {out : List Nat} {q m : Nat} (hm : m < l.length) (hq : q < l.length) (hqo : q ∉ out) (hqk : stS l q = k) (hmk : stS l m = k) (h : nmS l q ∈ afS l m) (hmo : m ∈ out → cntK l out m = 0) (hc : cntK l (out ++ [q]) m = 0) : (m :: HPL l k out q m).Perm (HPL l k out q (m + 1)) := by
  have hd := cnt_down (out := out) ok (i := m) (q := q) hm hq hqo (by rw [hqk, hmk]) h
  have hmq : m ≠ q := fun e => by subst e; exact ok.self m hm h
  unfold HPL
  refine add_perm ?_ ?_ (fun j hj => hpS_other hj) l.length hm
  · unfold hpS
    rw [if_neg (by omega)]
    cases h1 : inC l k out m
    · rfl
    · have := (inC_cnt.1 h1).2.2; omega
  · unfold hpS
    rw [if_pos (by omega), inC_cnt]
    refine ⟨fun h1 => ?_, hmk, hc⟩
    rcases List.mem_append.1 h1 with h1 | h1
    · have := hmo h1; omega
    · exact hmq (List.mem_singleton.1 h1)
/-- The ready ones at the start, of the first m. -/
def h0S (l : List VSys) (k : Int) (m j : Nat) : Bool := decide (j < m) && inC l k [] j
def H0L (l : List VSys) (k : Int) (m : Nat) : List Nat := (List.range l.length).filter (h0S l k m)
theorem h0_zero {k : Int} : H0L l k 0 = [] := by
  unfold H0L
  rw [List.filter_eq_nil_iff]
  intro j _
  unfold h0S
  rw [decide_eq_false (by omega)]; simp
theorem h0_other {k : Int} {m j : Nat} (h : j ≠ m) : h0S l k m j = h0S l k (m + 1) j := by
  unfold h0S
  congr 1
  exact decide_eq_decide.2 (by omega)
theorem h0_no {k : Int} {m : Nat} (h : ¬ (stS l m = k ∧ cntK l [] m = 0)) : H0L l k (m + 1) = H0L l k m := by
  unfold H0L
  apply List.filter_congr
  intro j _
  by_cases e : j = m
  · subst e
    unfold h0S
    cases h1 : inC l k [] j
    · simp
    · exact absurd ⟨(inC_cnt.1 h1).2.1, (inC_cnt.1 h1).2.2⟩ h
  · exact (h0_other e).symm
theorem h0_yes {k : Int} {m : Nat} (hm : m < l.length) (h : stS l m = k ∧ cntK l [] m = 0) : (m :: H0L l k m).Perm (H0L l k (m + 1)) := by
  unfold H0L
  refine add_perm ?_ ?_ (fun j hj => h0_other hj) l.length hm
  · unfold h0S; rw [decide_eq_false (by omega)]; rfl
  · unfold h0S; rw [decide_eq_true (by omega), Bool.true_and, inC_cnt]; exact ⟨by simp, h⟩
theorem h0_end {k : Int} : H0L l k l.length = candsK l k [] := by
  unfold H0L candsK
  apply List.filter_congr
  intro j hj
  unfold h0S
  rw [decide_eq_true (List.mem_range.1 hj), Bool.true_and]
/-- The heap's first is the one of the least name. -/
theorem heap_least (ok : OkS l) {k : Int} {out A : List Nat} (hA : A.Perm (candsK l k out)) (hh : Heap (ks l A) A.length) (h0 : 0 < A.length) : leastS l (candsK l k out) = some (at_ A 0) := by
  have hmem : ∀ j, j ∈ A ↔ j ∈ candsK l k out := fun j => hA.mem_iff
  have h1 : at_ A 0 ∈ A := by
    have : at_ A 0 = A[0] := by simp [at_, List.getD, h0]
    rw [this]; exact List.getElem_mem h0
  refine least_eq ok (fun j hj => (cands_mem.1 hj).1) ((hmem _).1 h1) (fun j hj => ?_)
  have hj2 := (hmem j).2 hj
  obtain ⟨i, hi, hij⟩ := List.getElem_of_mem hj2
  have h2 := hh.least i hi
  rw [ks_at l h0, ks_at l hi] at h2
  have h3 : at_ A i = j := by rw [← hij]; simp [at_, List.getD, hi]
  rw [h3] at h2
  rw [rk_lt l (cands_mem.1 hj).1 (cands_mem.1 ((hmem _).1 h1)).1]
  exact decide_eq_false (by omega)
/-- How far a stage has come. -/
structure GoS (l : List VSys) (k : Int) (S out : List Nat) : Prop where
  nodup : out.Nodup
  inn : ∀ i ∈ out, i < l.length ∧ stS l i = k
  zero : ∀ i ∈ out, cntK l out i = 0
  run : runK l k (l.length - out.length) out = S
theorem GoS.start (l : List VSys) (k : Int) : GoS l k (runK l k l.length []) [] := ⟨by simp, by simp, by simp, by simp⟩
theorem GoS.len {k : Int} {S out : List Nat} (h : GoS l k S out) : out.length ≤ l.length := by
  have := sub_len h.nodup (B := List.range l.length) (fun x hx => List.mem_range.2 (h.inn x hx).1)
  rwa [List.length_range] at this
theorem GoS.over {k : Int} {S out : List Nat} (h : GoS l k S out) (hc : candsK l k out = []) : S = out := by
  rw [← h.run]
  cases l.length - out.length with
  | zero => rfl
  | succ f => rw [runK, hc]; rfl
theorem GoS.next (ok : OkS l) {k : Int} {S out : List Nat} (h : GoS l k S out) {q : Nat} (hq : leastS l (candsK l k out) = some q) : GoS l k S (out ++ [q]) ∧ q < l.length ∧ q ∉ out ∧ stS l q = k ∧ q ∈ candsK l k out := by
  have hm := (least_some hq).1
  obtain ⟨h1, h2⟩ := cands_mem.1 hm
  obtain ⟨h3, h4, h5⟩ := inC_cnt.1 h2
  have hn : (out ++ [q]).Nodup := by
    rw [List.nodup_append]
    exact ⟨h.nodup, by simp, fun a ha b hb e => by rw [List.mem_singleton.1 hb] at e; exact h3 (e ▸ ha)⟩
  have hi : ∀ i ∈ out ++ [q], i < l.length ∧ stS l i = k := fun i hi => by
    rcases List.mem_append.1 hi with hi | hi
    · exact h.inn i hi
    · rw [List.mem_singleton.1 hi]; exact ⟨h1, h4⟩
  refine ⟨⟨hn, hi, fun i hio => ?_, ?_⟩, h1, h3, h4, hm⟩
  · have hz : cntK l out i = 0 := by
      rcases List.mem_append.1 hio with hio | hio
      · exact h.zero i hio
      · rw [List.mem_singleton.1 hio]; exact h5
    by_cases hc : stS l q = stS l i ∧ nmS l q ∈ afS l i
    · have := cnt_down (out := out) ok (hi i hio).1 h1 h3 hc.1 hc.2; omega
    · rw [cnt_stay ok (hi i hio).1 hc, hz]
  · have hl := sub_len hn (B := List.range l.length) (fun x hx => List.mem_range.2 (hi x hx).1)
    rw [List.length_range, List.length_append, List.length_singleton] at hl
    have hr := h.run
    obtain ⟨f, hf⟩ : ∃ f, l.length - out.length = f + 1 := ⟨l.length - out.length - 1, by omega⟩
    rw [hf, runK, hq] at hr
    rw [← hr, List.length_append, List.length_singleton]
    congr 1
    omega
end
end Go.Proofs.Ytcbboaoakgngkaa

namespace Go.Proofs.Ytcbboaoakgngkaa
open Go.RowKit Go.Proofs.Heap Go.Proofs.Sch Go.Proofs.HeapLaw

section
variable {B b : Nat} {ql : Option Addr} {qc : Nat} {l : List VSys} {g c : Nat} {A : List Nat}
theorem at_takeS {A : List Nat} {m k : Nat} (hk : k < m) : at_ (A.take m) k = at_ A k := by
  simp [at_, List.getD, hk]
theorem take_atS {A : List Nat} {m : Nat} (h : A.length = m + 1) : A.take m ++ [at_ A m] = A := by
  have e : at_ A m = A[m]'(by omega) := by simp [at_, List.getD, show m < A.length by omega]
  rw [e, ← List.take_succ_eq_append_getElem (by omega), List.take_of_length_le (by omega)]

set_option maxRecDepth 100000 in
set_option maxHeartbeats 2000000 in
theorem h_popS {m : Nat} (w : World) (h : QR w B b ql qc l (some ⟨g, 0, none⟩) c A) (hm : A.length = m + 1) (hh : Heap (ks l A) (m + 1)) :
    Calls Try.prog 78 #[.iface 125 (.pointer (some ⟨b, 0, none⟩))] w fun r w' => r = .returned (.iface 3 (iV (at_ A 0))) ∧
      ∃ A', QR w' B b ql qc l (some ⟨g, 0, none⟩) c A' ∧ (at_ A 0 :: A').Perm A ∧ Heap (ks l A') A'.length ∧ Keep (fun k => k = b ∨ k = g) w w' := by
  have HLEN := rd_len h
  rw [hm] at HLEN
  have HLEN := hid HLEN
  have hmm1 := rm_len w ⟨b, 0, none⟩
  have hmm2 := rm_swap w ⟨b, 0, none⟩
  have HQ := hid h
  have hs := h.small
  have HM := hid hm
  have HSW := hid (swapQ w 0 m 0 (m : Int) h (by omega) (by omega) rfl rfl)
  have hm6 : m ≤ 1000 := by omega
  have hmI : ((m + 1 : Nat) : Int) - 1 = (m : Int) := by omega
  have hmJ : (m : Int) + 1 - 1 = (m : Int) := by omega
  have hb2 : But (ks l (HeapLaw.swap A 0 m)) m 0 := by
    rw [ks_swap l (by omega) (by omega)]
    exact hh.cut (by rw [ks_len]; exact hm)
  have hl2 : (HeapLaw.swap A 0 m).length = m + 1 := by rw [swap_len]; exact hm
  have hp2 : (HeapLaw.swap A 0 m).Perm A := swap_perm (by omega) (by omega)
  have ha2 : at_ (HeapLaw.swap A 0 m) m = at_ A 0 := by rw [at_swap (by omega) (by omega), if_pos rfl]
  generalize HeapLaw.swap A 0 m = A2 at *
  have HB2 := hid hb2; have HL2 := hid hl2; have HP2 := hid hp2; have HA2 := hid ha2
  clear h hm hh hs hb2 hl2 hp2 ha2
  go_enter Try.func78, Try.ntmps78
  go_wp2_with fail
  refine HLEN.out.mono ?_
  rintro r w1 ⟨rfl, rfl⟩
  go_wp2_with fail
  refine HSW.out.mono ?_
  rintro r w1 ⟨rfl, hq2, hk2⟩
  have HQ2 := hid hq2; have HK2 := hid hk2
  clear hq2 hk2 hmm1 hmm2
  go_wp2_with fail
  refine (h_down w1 HQ2.out m (by have := HL2.out; omega) HB2.out).mono ?_
  rintro r w2 ⟨⟨v, rfl⟩, A3, hq3, hp3, hh3, ha3, hk3⟩
  have hl3 : A3.length = m + 1 := hp3.length_eq.trans HL2.out
  have hmp := rm_pop w2 ⟨b, 0, none⟩
  have HPOP := hid (rd_pop hq3 hl3)
  have hres : at_ A3 m = at_ A 0 := (ha3 m (Nat.le_refl _)).trans HA2.out
  rw [hres] at HPOP
  have HK3 := hid ((HK2.out.trans hk3).mono (T := fun k => k = b ∨ k = g) (fun k _ h => .inr h))
  have HFIN : Hid ((at_ A 0 :: A3.take m).Perm A ∧ Heap (ks l (A3.take m)) (A3.take m).length) := hid (by
    have ht : (A3.take m).length = m := by rw [List.length_take]; omega
    constructor
    · have e := take_atS hl3
      rw [hres] at e
      have h1 : (at_ A 0 :: A3.take m).Perm (A3.take m ++ [at_ A 0]) := (List.perm_append_singleton _ _).symm
      rw [e] at h1
      exact h1.trans (hp3.trans HP2.out)
    · rw [ht]
      intro j h0 hj
      have e : ks l (A3.take m) = (ks l A3).take m := by unfold ks; rw [List.map_take]
      rw [e, at_takeS (by omega), at_takeS hj]
      exact hh3 j h0 hj)
  clear hq3 hp3 hh3 ha3 hk3 hl3 hres
  go_wp2_with fail
  refine HPOP.out.mono ?_
  rintro r w3 ⟨rfl, hq4, hk4⟩
  have HQ4 := hid hq4
  have HK4 := hid (HK3.out.trans (hk4.mono (T := fun k => k = b ∨ k = g) (fun k _ h => .inl h)))
  clear hq4 hk4
  go_wp2
  go_ret
  exact ⟨rfl, _, HQ4.out, HFIN.out.1, HFIN.out.2, HK4.out⟩

set_option maxRecDepth 100000 in
set_option maxHeartbeats 2000000 in
theorem h_upS {n j1 : Nat} (w : World) (h : QR w B b ql qc l (some ⟨g, 0, none⟩) c A) (hn : n = A.length) (hj1 : j1 < n) (hb : ButUp (ks l A) n j1) :
    Calls Try.prog 92 #[.iface 125 (.pointer (some ⟨b, 0, none⟩)), .int .i64 j1] w fun r w' => r = .returned (.tuple #[]) ∧
      ∃ A', QR w' B b ql qc l (some ⟨g, 0, none⟩) c A' ∧ A'.Perm A ∧ Heap (ks l A') n ∧ Keep (fun k => k = g) w w' := by
  have hsm := h.small
  have HQ := hid h; have HB := hid hb
  clear h hb
  go_enter Try.func92, Try.ntmps92
  go_wp2
  go_loopw [1] (fun j wr => ∃ (j0 : Nat) (A' : List Nat), j = .int .i64 j0 ∧ QR wr B b ql qc l (some ⟨g, 0, none⟩) c A' ∧ A'.Perm A ∧ ButUp (ks l A') n j0 ∧ Keep (fun k => k = g) w wr ∧ j0 < n) (fun j _ => (intOf j).toNat)
  case atStart => exact ⟨j1, A, rfl, HQ.out, .refl _, HB.out, Keep.refl _ w, hj1⟩
  case round =>
    clear HQ HB
    obtain ⟨j0, A', rfl, hq, hp, hbut, hkeep, hj0⟩ := hrel
    have hlen := hp.length_eq
    have hnl : n ≤ A'.length := by omega
    have hkl : (ks l A').length = A'.length := ks_len l A'
    have hi6 : j0 ≤ 1000 := by omega
    clear hlen
    by_cases hz : j0 = 0
    · subst hz
      have HQ := hid hq; have HP := hid hp; have HB := hid hbut; have HK := hid hkeep
      clear hq hp hbut hkeep
      go_wp2
      go_end0
      exact ⟨rfl, A', HQ.out, HP.out, HB.out.stop (.inl rfl), HK.out⟩
    · have hquo : ((j0 : Int) - 1).tdiv 2 = ((j0 - 1) / 2 : Nat) := by rw [Int.tdiv_eq_ediv_of_nonneg (by omega)]; omega
      have hne : (((((j0 - 1) / 2 : Nat) : Int)) == (j0 : Int)) = false := by simp; omega
      have hm1 := rm_less wr ⟨b, 0, none⟩
      have hm2 := rm_swap wr.drew ⟨b, 0, none⟩
      have HQ := hid hq; have HQd := hid hq.drew; have HP := hid hp; have HB := hid hbut; have HK := hid hkeep
      have hi : (j0 - 1) / 2 < n := by omega
      have hij : (j0 - 1) / 2 ≠ j0 := by omega
      obtain ⟨i, hi0⟩ : ∃ i, i = (j0 - 1) / 2 := ⟨_, rfl⟩
      have HI := hid hi0
      rw [← hi0] at hquo hne hi hij
      clear hq hp hbut hkeep hi0
      by_cases hl : at_ (ks l A') j0 < at_ (ks l A') i
      · go_wp2_with fail
        refine (lessQ wr j0 i _ _ HQ.out (by omega) (by omega) (by omega) (by omega)).mono ?_
        rintro r w3 ⟨rfl, rfl⟩
        go_wp2_with fail
        refine (swapQ wr.drew i j0 _ _ HQd.out (by omega) (by omega) (by omega) (by omega)).mono ?_
        rintro r w3 ⟨rfl, hq3, hk3⟩
        have hb3 : ButUp (ks l (HeapLaw.swap A' i j0)) n i := by rw [ks_swap l (by omega) (by omega)]; exact HB.out.step (by omega) (by omega) hj0 HI.out.symm hl
        have hp3 := (swap_perm (l := A') (i := i) (j := j0) (by omega) (by omega)).trans HP.out
        have hk3' := Keep.trans' (Keep.trans HK.out (((Keep.refl (fun k => k = g) wr).drew))) hk3 (fun _ _ h => h)
        have HQ3 := hid hq3; have HB3 := hid hb3; have HP3 := hid hp3; have HK3 := hid hk3'
        clear hq3 hb3 hp3 hk3 hk3'
        go_wp2
        go_roundw
        case rel => exact ⟨i, _, by go_num, HQ3.out, HP3.out, HB3.out, HK3.out, hi⟩
        case measure => have := HI.out; simp [intOf]; omega
      · go_wp2_with fail
        refine (lessQ wr j0 i _ _ HQ.out (by omega) (by omega) (by omega) (by omega)).mono ?_
        rintro r w3 ⟨rfl, rfl⟩
        go_wp2
        go_end0
        exact ⟨rfl, A', HQd.out, HP.out, HB.out.stop (.inr (by have := HI.out; rw [← this]; omega)), Keep.trans HK.out ((Keep.refl (fun k => k = g) wr).drew)⟩
end

set_option maxRecDepth 100000 in
set_option maxHeartbeats 2000000 in
theorem h_pushS {B b : Nat} {ql : Option Addr} {qc : Nat} {l : List VSys} {p : Option Addr} {c : Nat} {A : List Nat} (w : World) (x : Nat) (h : QR w B b ql qc l p c A) (hx : x < l.length) (hA : A.length ≤ 900) (hh : Heap (ks l A) A.length) :
    Calls Try.prog 76 #[.iface 125 (.pointer (some ⟨b, 0, none⟩)), .iface 3 (iV x)] w fun r w' => r = .returned (.tuple #[]) ∧
      ∃ p' c' A', QR w' B b ql qc l p' c' A' ∧ A'.Perm (A ++ [x]) ∧ Heap (ks l A') A'.length ∧ ((Value.slice p' A'.length c').ownBlock = (Value.slice p A.length c).ownBlock ∨ ∃ k, (Value.slice p' A'.length c').ownBlock = some k ∧ w.heap.size ≤ k) ∧ Keep (fun k => k = b ∨ (Value.slice p A.length c).ownBlock = some k) w w' := by
  have hmp := rm_push w ⟨b, 0, none⟩
  have HP := hid (rd_push h hx hA)
  have HUP : Hid (ButUp (ks l (A ++ [x])) (A.length + 1) A.length) := hid (by
    have e : ks l (A ++ [x]) = ks l A ++ [rkS l x] := by unfold ks; rw [List.map_append]; rfl
    rw [e]
    have h2 := Heap.push (l := ks l A) (by rw [ks_len]; exact hh) (rkS l x)
    rw [ks_len] at h2
    exact h2)
  have hbw : b < w.heap.size := lt_of_heap h.box
  clear h hh
  go_enter Try.func76, Try.ntmps76
  go_wp2_with fail
  refine HP.out.mono ?_
  rintro r w1 ⟨rfl, p1, c1, hq1, hg1, hk1⟩
  have hlen : (A ++ [x]).length = A.length + 1 := by rw [List.length_append]; rfl
  have HLEN := rd_len hq1
  have hq1' := hq1
  rw [hlen] at HLEN hg1
  obtain ⟨g1, rfl⟩ := owns_some hq1.own (by rw [hlen]; omega)
  have HLEN := hid HLEN
  have hm2 := rm_len w1 ⟨b, 0, none⟩
  have HUPC := hid (h_upS w1 hq1 hlen.symm (j1 := A.length) (by omega) HUP.out)
  have HK1 := hid hk1; have HG1 := hid hg1
  have hc1 : ((A.length + 1 : Nat) : Int) - 1 = (A.length : Int) := by omega
  have hc2 : (A.length : Int) + 1 - 1 = (A.length : Int) := by omega
  clear hq1 hq1' hk1 hg1 hmp HP HUP hlen
  go_wp2_with fail
  refine HLEN.out.mono ?_
  rintro r w2 ⟨rfl, rfl⟩
  go_wp2_with fail
  refine HUPC.out.mono ?_
  rintro r w2 ⟨rfl, A', hq', hp', hh', hk'⟩
  have hl' : A'.length = A.length + 1 := by rw [hp'.length_eq, List.length_append]; rfl
  have HFIN : Hid (∃ p' c' A', QR w2 B b ql qc l p' c' A' ∧ A'.Perm (A ++ [x]) ∧ Heap (ks l A') A'.length ∧ ((Value.slice p' A'.length c').ownBlock = (Value.slice p A.length c).ownBlock ∨ ∃ k, (Value.slice p' A'.length c').ownBlock = some k ∧ w.heap.size ≤ k) ∧ Keep (fun k => k = b ∨ (Value.slice p A.length c).ownBlock = some k) w w2) := hid (by
    refine ⟨_, c1, A', hq', hp', by rw [hl']; exact hh', by rw [hl']; exact HG1.out, HK1.out.trans' hk' ?_⟩
    intro i hi e
    subst e
    rcases HG1.out with h | ⟨k, h, hk⟩
    · exact .inr h.symm
    · have : some i = some k := by rw [← h]; rfl
      injection this with this
      omega)
  clear hq' hp' hh' hk' hl'
  go_wp2
  go_end0
  exact ⟨rfl, HFIN.out⟩
end Go.Proofs.Ytcbboaoakgngkaa
