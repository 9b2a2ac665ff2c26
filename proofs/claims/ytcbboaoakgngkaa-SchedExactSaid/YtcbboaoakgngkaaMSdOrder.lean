/- What is proved: what Order and Names of a row of systems answer. -/
import Derived.Test.YtcbboaoakgngkaaMSdStLaw
import Derived.Test.YtcbboaoakgngkaaMCr1
import Derived.Test.YtcbboaoakgngkaaMHeap
import Derived.Test.YtcbboaoakgngkaaMLay
import Derived.Laws.Rows
import Derived.Laws.Tables
import Derived.Deep.Cut
import Derived.Deep.CutRange
import Derived.Deep.CutBlock
namespace Go.Proofs.Ytcbboaoakgngkaa
open Go.RowKit Go.Proofs.Heap Go.Proofs.Sch

theorem firstE_zero : ∀ {l : List Nat}, firstE l = 0 → ∀ e ∈ l, e = 0
  | [], _, e, he => by simp at he
  | a :: r, h, e, he => by
    rw [firstE] at h
    by_cases ha : a = 0
    · rw [if_pos ha] at h
      rcases List.mem_cons.1 he with rfl | he
      · exact ha
      · exact firstE_zero h e he
    · rw [if_neg ha] at h; exact absurd h ha
theorem rangeE_zero {f : Nat → Nat} {n : Nat} (h : firstE ((List.range n).map f) = 0) {i : Nat} (hi : i < n) : f i = 0 := firstE_zero h _ (List.mem_map.2 ⟨i, List.mem_range.2 hi, rfl⟩)
theorem idx_le {α : Type} {q : α → Bool} {l : List α} {i : Nat} {x : α} (hx : l[i]? = some x) (hq : q x = true) : idxI q l ≤ (i : Int) := by
  unfold idxI
  cases h : l.findIdx? q with
  | none =>
    rw [List.findIdx?_eq_none_iff] at h
    rw [h x (List.mem_of_getElem? hx)] at hq; cases hq
  | some j =>
    rw [List.findIdx?_eq_some_iff_getElem] at h
    obtain ⟨hj, h1, h2⟩ := h
    apply Classical.byContradiction
    intro hn
    have hn : ¬ (j : Int) ≤ (i : Int) := hn
    have := h2 i (by omega)
    have e : l[i]'(by omega) = x := by
      have := List.getElem?_eq_some_iff.1 hx
      exact this.2
    rw [e] at this
    exact this hq
theorem check_at {l : List VSys} (h : checkS l = 0) : l.length ≤ 16 ∧ ∀ (i : Nat) (s : VSys), l[i]? = some s → sysC s = 0 ∧ (i : Int) ≤ fnS l s.name := by
  unfold checkS at h
  by_cases hb : 16 < l.length
  · rw [if_pos hb] at h; omega
  · rw [if_neg hb] at h
    refine ⟨by omega, fun i s hs => ?_⟩
    have h1 := rangeE_zero h (List.getElem?_eq_some_iff.1 hs).1
    unfold chkAt at h1
    rw [hs] at h1
    dsimp only at h1
    by_cases h2 : sysC s = 0
    · rw [if_neg (by rw [h2]; simp)] at h1
      refine ⟨h2, ?_⟩
      by_cases h3 : fnS l s.name < (i : Int)
      · rw [if_pos h3] at h1; omega
      · omega
    · rw [if_pos h2] at h1; exact absurd h1 h2
theorem sys_ok {s : VSys} (h : sysC s = 0) : 0 ≤ s.stage ∧ s.stage ≤ 9 ∧ s.after.length ≤ 4 ∧ s.after.Nodup ∧ s.name ∉ s.after := by
  unfold sysC at h
  by_cases h1 : nameB s.name = false
  · rw [if_pos h1] at h; omega
  rw [if_neg h1] at h
  by_cases h2 : s.stage < 0 ∨ 9 < s.stage
  · rw [if_pos h2] at h; omega
  rw [if_neg h2] at h
  by_cases h3 : afterC s.name s.after = 0
  · refine ⟨by omega, by omega, ?_⟩
    unfold afterC at h3
    by_cases h4 : 4 < s.after.length
    · rw [if_pos h4] at h3; omega
    rw [if_neg h4] at h3
    by_cases h5 : (List.range s.after.length).all (afterAt s.name s.after) = true
    · rw [List.all_eq_true] at h5
      have key : ∀ k t, s.after[k]? = some t → t ≠ s.name ∧ t ∉ s.after.take k := by
        intro k t hk
        have := h5 k (List.mem_range.2 (List.getElem?_eq_some_iff.1 hk).1)
        unfold afterAt at this
        rw [hk] at this
        dsimp only at this
        rw [Bool.and_eq_true, Bool.and_eq_true, Bool.not_eq_true', Bool.not_eq_true'] at this
        refine ⟨of_decide_eq_false this.2.1, fun hm => ?_⟩
        rw [(mem_any t _).2 hm] at this
        cases this.2.2
      refine ⟨by omega, ?_, fun hm => ?_⟩
      · rw [List.Nodup, List.pairwise_iff_getElem]
        intro i j hi hj hij e
        refine (key j s.after[j] (List.getElem?_eq_getElem hj)).2 ?_
        rw [← e, List.mem_take_iff_getElem]
        exact ⟨i, by omega, rfl⟩
      · obtain ⟨k, hk⟩ := List.getElem?_of_mem hm
        exact (key k s.name hk).1 rfl
    · rw [if_neg h5] at h3; omega
  · rw [if_pos h3] at h; exact absurd h h3
theorem fn_cases (l : List VSys) (a : ByteArray) : fnS l a = -1 ∨ ∃ j : Nat, fnS l a = (j : Int) ∧ j < l.length ∧ nmS l j = a := by
  rcases idx_cases (fun x : VSys => decide (x.name = a)) l with h | ⟨j, u, h, hu, hq, hj⟩
  · exact .inl h
  · exact .inr ⟨j, h, hj, by rw [nmS_at hu]; exact of_decide_eq_true hq⟩
theorem ok_of {l : List VSys} (h : checkS l = 0) (k : linksS l = 0) : OkS l := by
  obtain ⟨h16, hch⟩ := check_at h
  have get : ∀ i, i < l.length → ∃ s, l[i]? = some s := fun i hi => ⟨l[i], by simp [hi]⟩
  refine ⟨?_, ?_, ?_, ?_, ?_⟩
  · intro i j hi hj e
    obtain ⟨s, hs⟩ := get i hi
    obtain ⟨t, ht⟩ := get j hj
    rw [nmS_at hs, nmS_at ht] at e
    have h1 := idx_le (q := fun x : VSys => decide (x.name = s.name)) ht (decide_eq_true e.symm)
    have h2 := idx_le (q := fun x : VSys => decide (x.name = t.name)) hs (decide_eq_true e)
    have h3 := (hch i s hs).2
    have h4 := (hch j t ht).2
    unfold fnS at h3 h4
    omega
  · intro i hi a ha
    obtain ⟨s, hs⟩ := get i hi
    have h1 : lnkE l i = 0 := rangeE_zero k hi
    have h2 := firstE_zero h1 (lnkAt l i a) (List.mem_map.2 ⟨a, ha, rfl⟩)
    unfold lnkAt at h2
    rcases fn_cases l a with h3 | ⟨j, h3, hj, hn⟩
    · rw [h3] at h2
      rw [if_pos (by omega)] at h2; omega
    · refine ⟨j, h3, hj, hn, ?_⟩
      have h4 : fdS l a = j := by unfold fdS; rw [h3, Int.toNat_natCast]
      rw [h3, h4, if_neg (by omega)] at h2
      by_cases h5 : stS l i < stS l j
      · rw [if_pos h5] at h2; omega
      · omega
  · intro i hi
    obtain ⟨s, hs⟩ := get i hi
    have := sys_ok (hch i s hs).1
    rw [stS_at hs]; exact ⟨this.1, this.2.1⟩
  · intro i hi
    obtain ⟨s, hs⟩ := get i hi
    rw [afS_at hs]; exact (sys_ok (hch i s hs).1).2.2.2.1
  · intro i hi
    obtain ⟨s, hs⟩ := get i hi
    rw [afS_at hs, nmS_at hs]; exact (sys_ok (hch i s hs).1).2.2.2.2
/-- The order's error, and the order. -/
def ordE (l : List VSys) : Nat := if checkS l ≠ 0 then checkS l else if linksS l ≠ 0 then linksS l else if (accP l 10).length < l.length then 7 else 0
def ordL (l : List VSys) : List Nat := if checkS l ≠ 0 then [] else if linksS l ≠ 0 then [] else if (accP l 10).length < l.length then [] else accP l 10
theorem acc_len {l : List VSys} (ok : OkS l) (k : Nat) : (accP l k).length ≤ l.length := by
  obtain ⟨h1, h2, _⟩ := acc_inv ok k
  have := sub_len h1 (B := List.range l.length) (fun x hx => List.mem_range.2 (h2 x hx).1)
  rwa [List.length_range] at this
theorem ordL_in {l : List VSys} : ∀ i ∈ ordL l, i < l.length := by
  intro i hi
  unfold ordL at hi
  by_cases h1 : checkS l = 0
  · rw [if_neg (by rw [h1]; simp)] at hi
    by_cases h2 : linksS l = 0
    · rw [if_neg (by rw [h2]; simp)] at hi
      split at hi
      · simp at hi
      · exact ((acc_inv (ok_of h1 h2) 10).2.1 i hi).1
    · rw [if_pos h2] at hi; simp at hi
  · rw [if_pos h1] at hi; simp at hi
theorem ordL_len (l : List VSys) : (ordL l).length ≤ 16 := by
  unfold ordL
  by_cases h1 : checkS l = 0
  · rw [if_neg (by rw [h1]; simp)]
    by_cases h2 : linksS l = 0
    · rw [if_neg (by rw [h2]; simp)]
      split
      · simp
      · exact Nat.le_trans (acc_len (ok_of h1 h2) 10) (check_at h1).1
    · rw [if_pos h2]; simp
  · rw [if_pos h1]; simp

set_option maxRecDepth 20000 in
set_option maxHeartbeats 8000000 in
theorem sd_order (l : List VSys) (q : Option Addr) (qc : Nat) (w : World) (hs : SP w w.heap.size q l) :
    Calls Try.prog 24 #[.slice q l.length qc] w fun r w' => ∃ a c, r = .returned (.tuple #[.slice a (ordL l).length c, iV (ordE l)]) ∧ w'.ownsRow w.heap.size 3 1 (.slice a (ordL l).length c) (ordL l).length ((ordL l).map iV) ∧ Keep (fun _ => False) w w' := by
  have HSP : Hid (∀ wy, Keep (fun _ => False) w wy → SP wy wy.heap.size q l) := hid (fun wy hk => SP.mono (SP.low hs (Low.keep0 hk)) hk.size)
  have HE : Hid (ordE l = if checkS l ≠ 0 then checkS l else if linksS l ≠ 0 then linksS l else if (accP l 10).length < l.length then 7 else 0) := hid rfl
  have HL : Hid (ordL l = if checkS l ≠ 0 then [] else if linksS l ≠ 0 then [] else if (accP l 10).length < l.length then [] else accP l 10) := hid rfl
  have HCK := hid (check_at (l := l))
  have HOK := hid (ok_of (l := l))
  generalize ordE l = E at *
  generalize ordL l = L at *
  clear hs
  go_enter Try.func24, Try.ntmps24
  go_wp2_with fail
  refine (sd_check l q qc _ (HSP.out _ (Keep.refl _ _))).mono ?_
  rintro r w1 ⟨rfl, hk1⟩
  have HK1 := hid hk1
  clear hk1
  generalize checkS l = z1 at *
  by_cases hz1 : z1 = 0
  rotate_left
  · have g1 : ((z1 : Int) != 0) = true := by rw [bne, beq_eq_false_iff_ne.2 (show (z1 : Int) ≠ 0 by omega)]; rfl
    have g2 : (z1 != 0) = true := by rw [bne, beq_eq_false_iff_ne.2 hz1]; rfl
    have G1 : Hid (E = z1) := hid (by rw [HE.out, if_pos hz1])
    have G2 : Hid (L = []) := hid (by rw [HL.out, if_pos hz1])
    go_wp2
    (try simp only [Exit.inBlock, Exit.then])
    refine bodyPost_ret (results_2 rfl _) rfl ?_
    rw [G1.out, G2.out]
    exact ⟨none, 0, rfl, World.ownsRow_nil _ _ _ _, HK1.out⟩
  subst hz1
  obtain ⟨h16, hch⟩ := HCK.out rfl
  have H16 := hid h16
  have HAF : Hid (∀ s ∈ l, s.after.length ≤ 1000) := hid (fun s hs => by
    obtain ⟨i, hi⟩ := List.getElem?_of_mem hs
    have := (sys_ok (hch i s hi).1).2.2.1
    omega)
  have HOK2 := hid (HOK.out rfl)
  have HE1 : Hid (E = if linksS l ≠ 0 then linksS l else if (accP l 10).length < l.length then 7 else 0) := hid (by rw [HE.out, if_neg (by simp)])
  have HL1 : Hid (L = if linksS l ≠ 0 then [] else if (accP l 10).length < l.length then [] else accP l 10) := hid (by rw [HL.out, if_neg (by simp)])
  clear hch HE HL HCK HOK
  go_wp2_with fail
  refine (sd_links l q qc _ (by omega) HAF.out (HSP.out _ HK1.out)).mono ?_
  rintro r w2 ⟨rfl, hk2⟩
  have HK2 := hid (HK1.out.trans hk2)
  clear hk2
  generalize linksS l = z2 at *
  by_cases hz2 : z2 = 0
  rotate_left
  · have g1 : ((z2 : Int) != 0) = true := by rw [bne, beq_eq_false_iff_ne.2 (show (z2 : Int) ≠ 0 by omega)]; rfl
    have g2 : (z2 != 0) = true := by rw [bne, beq_eq_false_iff_ne.2 hz2]; rfl
    have G1 : Hid (E = z2) := hid (by rw [HE1.out, if_pos hz2])
    have G2 : Hid (L = []) := hid (by rw [HL1.out, if_pos hz2])
    go_wp2
    (try simp only [Exit.inBlock, Exit.then])
    refine bodyPost_ret (results_2 rfl _) rfl ?_
    rw [G1.out, G2.out]
    exact ⟨none, 0, rfl, World.ownsRow_nil _ _ _ _, HK2.out⟩
  subst hz2
  have HK := hid (HOK2.out rfl)
  have HE2 : Hid (E = if (accP l 10).length < l.length then 7 else 0) := hid (by rw [HE1.out, if_neg (by simp)])
  have HL2 : Hid (L = if (accP l 10).length < l.length then [] else accP l 10) := hid (by rw [HL1.out, if_neg (by simp)])
  have HAL := hid (fun k => acc_len HK.out k)
  obtain ⟨i0, hi0, hz0, hzz1, hzz2⟩ := info_parts' info_intS
  have HI := hid (And.intro hi0 (And.intro hz0 (And.intro hzz1 hzz2)))
  clear hi0 hz0 hzz1 hzz2 HE1 HL1 HOK2
  go_wp2_with fail
  go_loopw [6, 7, 18] (fun o _ i wr => ∃ (m : Nat) (a : Option Addr) (c : Nat), m ≤ 10 ∧ i = iV m ∧ o = .slice a (accP l m).length c ∧ wr.ownsRow w.heap.size 3 1 (.slice a (accP l m).length c) (accP l m).length ((accP l m).map iV) ∧ Keep (fun _ => False) w wr) (fun _ _ i _ => 11 - (intOf i).toNat)
  case atStart => exact ⟨0, none, 0, by omega, rfl, rfl, World.ownsRow_nil _ _ _ _, HK2.out⟩
  case round =>
    obtain ⟨m, a, c, hm, rfl, rfl, hown, hkr⟩ := hrel
    have HO := hid hown; have HKR := hid hkr
    clear hown hkr
    by_cases hlt : m < 10
    · have hltI : (m : Int) < 10 := by omega
      have HST := hid (sd_stage l (m : Int) q qc wr HK.out (by omega) HAF.out (HSP.out _ HKR.out))
      have HNX : Hid (accP l (m + 1) = accP l m ++ runK l (m : Int) l.length []) := hid rfl
      have HLN : Hid ((accP l (m + 1)).length = (accP l m).length + (runK l (m : Int) l.length []).length) := hid (by rw [HNX.out, List.length_append])
      have HMN : Hid ((accP l (m + 1)).map iV = (accP l m).map iV ++ (runK l (m : Int) l.length []).map iV) := hid (by rw [HNX.out, List.map_append])
      have HB := hid (HAL.out (m + 1))
      clear HNX
      obtain ⟨N, hN⟩ : ∃ N, accP l (m + 1) = N := ⟨_, rfl⟩
      have HN := hid hN
      rw [hN] at HLN HMN HB
      clear hN
      generalize runK l (m : Int) l.length [] = S at *
      generalize accP l m = M at *
      go_wp2_with fail
      refine HST.out.mono ?_
      rintro r w3 ⟨a3, c3, rfl, hown3, hk3⟩
      have HO3 := hid hown3
      have HOA := hid (owns_keep (w' := w3) HO.out (fun j hj => hk3.block j (HO.out.lt j hj).2 id))
      have HK3 := hid (HKR.out.trans hk3)
      have HONE : Hid (∀ u ∈ S.map iV, u.oneCell' = true) := hid (fun u hu => by
        obtain ⟨i, _, rfl⟩ := List.mem_map.1 hu; rfl)
      clear hown3 hk3 HO HST
      go_wp2_with (at_builtin; go_loud (refine wpList_append_rd rfl _ _ _ rfl w.heap.size _ i0 _ 1 8 Try.underlying24 HI.out.1 HI.out.2.1 HI.out.2.2.1 HI.out.2.2.2 rfl (by decide) _ M.length _ (by rfl) HOA.out _ S.length _ (by rfl) (rd_own HO3.out HONE.out) (by have := HLN.out; have := HB.out; unfold maxLen; omega) (by have := HLN.out; have := HB.out; omega) HK3.out.size ?_; intro v' w6 hown6 hgrow6 hat6 hn6; obtain ⟨vr, ve, rfl⟩ := owns_val hown6; rw [← HMN.out, ← HLN.out] at hown6; rw [← HLN.out]; have HO6 := hid hown6; have HK6 := hid (HK3.out.grown hgrow6 (fun k hk => .inl (HOA.out.lt k hk).1)); clear hown6 hgrow6 hat6 hn6))
      go_roundw
      case rel => exact ⟨m + 1, vr, ve, by omega, by go_num, by rw [HN.out], by rw [HN.out]; exact HO6.out, HK6.out⟩
      case measure => simp [intOf]; omega
    · obtain rfl : m = 10 := by omega
      generalize accP l 10 = M at *
      by_cases hlen : M.length < l.length
      · have g1 : decide ((M.length : Int) < (l.length : Int)) = true := decide_eq_true (by omega)
        have g2 : decide (M.length < l.length) = true := decide_eq_true hlen
        have G1 : Hid (E = 7) := hid (by rw [HE2.out, if_pos hlen])
        have G2 : Hid (L = []) := hid (by rw [HL2.out, if_pos hlen])
        go_wp2
        (try simp only [Exit.inBlock, Exit.then])
        refine bodyPost_ret (results_2 rfl _) rfl ?_
        rw [G1.out, G2.out]
        exact ⟨none, 0, rfl, World.ownsRow_nil _ _ _ _, HKR.out⟩
      · have g1 : decide ((M.length : Int) < (l.length : Int)) = false := decide_eq_false (by omega)
        have g2 : decide (M.length < l.length) = false := decide_eq_false hlen
        have G1 : Hid (E = 0) := hid (by rw [HE2.out, if_neg hlen])
        have G2 : Hid (L = M) := hid (by rw [HL2.out, if_neg hlen])
        go_wp2
        (try simp only [Exit.inBlock, Exit.then])
        refine bodyPost_ret (results_2 rfl _) rfl ?_
        rw [G1.out, G2.out]
        exact ⟨a, c, rfl, HO.out, HKR.out⟩

theorem sp_some {w : World} {B : Nat} {q : Option Addr} {l : List VSys} (h : SP w B q l) {i : Nat} (hi : i < l.length) : ∃ lb lo, q = some ⟨lb, lo, none⟩ := by
  obtain ⟨u, hu⟩ : ∃ u, l[i]? = some u := ⟨l[i], by simp [hi]⟩
  obtain ⟨lb, lo, _, _, _, _, hq, _⟩ := SP.at h hu
  exact ⟨lb, lo, hq⟩
theorem info_strS : (Try.prog.info? 9).map (fun i => (i.zero, i.size, i.bytes)) = some (some (.string ⟨#[]⟩), 1, 16) := by kernel_rfl
abbrev nV (l : List VSys) (i : Nat) : Value := .string (nmS l i)
set_option maxRecDepth 20000 in
set_option maxHeartbeats 8000000 in
theorem sd_names (l : List VSys) (q : Option Addr) (qc : Nat) (w : World) (hs : SP w w.heap.size q l) :
    Calls Try.prog 25 #[.slice q l.length qc] w fun r w' => ∃ a c, r = .returned (.tuple #[.slice a (ordL l).length c, iV (ordE l)]) ∧ w'.ownsRow w.heap.size 9 1 (.slice a (ordL l).length c) (ordL l).length ((ordL l).map (nV l)) ∧ Keep (fun _ => False) w w' := by
  have HSP : Hid (∀ wy, Keep (fun _ => False) w wy → SP wy wy.heap.size q l) := hid (fun wy hk => SP.mono (SP.low hs (Low.keep0 hk)) hk.size)
  have HOC := hid (sd_order l q qc w hs)
  have HIN := hid (ordL_in (l := l))
  have HLE := hid (ordL_len l)
  generalize ordE l = E at *
  generalize ordL l = L at *
  obtain ⟨i0, hi0, hz0, hzz1, hzz2⟩ := info_parts' info_strS
  have HI := hid (And.intro hi0 (And.intro hz0 (And.intro hzz1 hzz2)))
  clear hi0 hz0 hzz1 hzz2 hs
  go_enter Try.func25, Try.ntmps25
  go_wp2_with fail
  refine HOC.out.mono ?_
  rintro r w1 ⟨a1, c1, rfl, hown1, hk1⟩
  have HO1 := hid hown1; have HK1 := hid hk1
  clear hown1 hk1 HOC
  have hle := HLE.out
  go_wp2_with fail
  go_loopw [6, 8, 16] (fun o _ i wr => ∃ (m : Nat) (a : Option Addr) (c : Nat), m ≤ L.length ∧ i = iV m ∧ o = .slice a m c ∧ wr.ownsRow w1.heap.size 9 1 (.slice a m c) m ((L.take m).map (nV l)) ∧ Keep (fun _ => False) w1 wr) (fun _ _ i _ => L.length + 1 - (intOf i).toNat)
  case atStart => exact ⟨0, none, 0, by omega, rfl, rfl, World.ownsRow_nil _ _ _ _, Keep.refl _ _⟩
  case round =>
    obtain ⟨m, a, c, hm, rfl, rfl, hown, hkr⟩ := hrel
    have HO := hid hown; have HKR := hid hkr
    clear hown hkr
    by_cases hlt : m < L.length
    · obtain ⟨i, hi⟩ : ∃ i, L[m]? = some i := ⟨L[m], by simp [hlt]⟩
      have hil := HIN.out i (List.mem_of_getElem? hi)
      obtain ⟨g1, rfl⟩ := owns_some HO1.out (by omega)
      have d0 : wr.cell? ⟨g1, m, none⟩ = some (iV i) := by rw [owns_cell (owns_keep (w' := wr) HO1.out (fun j hj => HKR.out.block j (HO1.out.lt j hj).2 id)) hlt, List.getElem?_map, hi]; rfl
      have hin : (0 : Int) ≤ (m : Int) ∧ (m : Int) < (L.length : Int) := ⟨by omega, by omega⟩
      have hin2 : (0 : Int) ≤ (i : Int) ∧ (i : Int) < (l.length : Int) := ⟨by omega, by omega⟩
      have hsp := HSP.out _ (HK1.out.trans HKR.out)
      obtain ⟨lb, lo, rfl⟩ := sp_some hsp hil
      have e0 := sys_name hsp hil
      have HMN : Hid ((L.take (m + 1)).map (nV l) = (L.take m).map (nV l) ++ [nV l i]) := hid (by rw [take_next hi, List.map_append]; rfl)
      have HKW := hid (HK1.out.trans HKR.out)
      generalize (L.take m).map (nV l) = cl at *
      clear hi hsp
      go_wp2_with (at_builtin; go_loud (refine wpList_append_rd rfl _ _ _ rfl w1.heap.size _ i0 _ 1 16 Try.underlying39 HI.out.1 HI.out.2.1 HI.out.2.2.1 HI.out.2.2.2 rfl (by decide) _ m cl (by rfl) (HO.out.alloc _) _ 1 [nV l i] (by rfl) (rd_block (heap_alloc_new wr _) (by simp) (by simp [Value.oneCell'])) (by unfold maxLen; omega) (by omega) (by have := HKR.out.size; simp; omega) ?_; intro v' w6 hown6 hgrow6 hat6 hn6; obtain ⟨vr, ve, rfl⟩ := owns_val hown6; rw [← HMN.out] at hown6; have HO6 := hid hown6; have HK6 := hid ((HKR.out.alloc _).grown hgrow6 (fun k hk => .inl (HO.out.lt k hk).1)); clear hown6 hgrow6 hat6 hn6))
      go_roundw
      case rel => exact ⟨m + 1, _, _, by omega, by go_num, rfl, HO6.out, HK6.out⟩
      case measure => simp [intOf]; omega
    · obtain rfl : m = L.length := by omega
      have hcl : (L.take L.length).map (nV l) = L.map (nV l) := by rw [List.take_length]
      have HOF := hid (hcl ▸ HO.out)
      clear hcl HO
      have g1 : decide ((L.length : Int) < (L.length : Int)) = false := decide_eq_false (by omega)
      have g2 : decide (L.length < L.length) = false := decide_eq_false (by omega)
      go_wp2
      (try simp only [Exit.inBlock, Exit.then])
      refine bodyPost_ret (results_2 rfl _) rfl ?_
      exact ⟨a, c, rfl, owns_mono HOF.out HK1.out.size, HK1.out.trans HKR.out⟩
end Go.Proofs.Ytcbboaoakgngkaa

namespace Go.Proofs.Ytcbboaoakgngkaa
open Go.RowKit Go.Proofs.Heap Go.Proofs.Sch

def ocS (x : VOp) : List Value := [.int .i64 x.code, .int .i64 x.a, .int .i64 x.b, .int .i64 x.c, .int .i64 x.k]
theorem info_opS : (Try.prog.info? 81).map (fun i => (i.zero, i.size, i.bytes)) = some (some (.agg #[.int .i64 0, .int .i64 0, .int .i64 0, .int .i64 0, .int .i64 0]), 5, 40) := by kernel_rfl
theorem flat_getS {α β : Type} {f : α → List β} {z : Nat} (hf : ∀ x, (f x).length = z) : ∀ {l : List α} {i r : Nat} {x : α}, l[i]? = some x → r < z → (l.flatMap f)[i * z + r]? = (f x)[r]?
  | [], i, r, x, h, _ => by simp at h
  | a :: l, 0, r, x, h, hr => by
    simp at h
    subst h
    rw [List.flatMap_cons, Nat.zero_mul, Nat.zero_add, List.getElem?_append_left (by rw [hf]; exact hr)]
  | a :: l, i + 1, r, x, h, hr => by
    rw [List.flatMap_cons, List.getElem?_append_right (by rw [hf]; rw [Nat.succ_mul]; omega), hf, show (i + 1) * z + r - z = i * z + r by rw [Nat.succ_mul]; omega]
    exact flat_getS hf (by simpa using h) hr
theorem owns_flatS {α : Type} {f : α → List Value} {z : Nat} (hf : ∀ x, (f x).length = z) {w : World} {base n c g i r : Nat} {e : TypeId} {l : List α} {x : α} {u : Value} (h : w.ownsRow base e z (.slice (some ⟨g, 0, none⟩) n c) n (l.flatMap f)) (hx : l[i]? = some x) (hr : r < z) (hu : (f x)[r]? = some u) : w.cell? ⟨g, i * z + r, none⟩ = some u := by
  have h1 := flat_getS hf hx hr
  rw [hu] at h1
  have h2 := h.cells (g := g) rfl (i * z + r) u h1
  have hadd : (⟨g, 0, none⟩ : Addr).add (i * z + r) = ⟨g, i * z + r, none⟩ := by unfold Addr.add; split <;> simp_all
  rwa [hadd] at h2
theorem vp_ownS {w : World} {base n c : Nat} {e : TypeId} {p : Option Addr} {l : List VOp} (hn : l.length = n) (h : w.ownsRow base e 5 (.slice p n c) n (l.flatMap ocS)) : VP w w.heap.size p l := by
  rcases Nat.eq_zero_or_pos n with h0 | h0
  · exact .inl (List.eq_nil_of_length_eq_zero (by omega))
  · obtain ⟨q, rfl⟩ := owns_some h h0
    refine .inr ⟨q, 0, rfl, (h.lt q (by simp [Value.ownBlock])).2, fun i x hx => ?_⟩
    have hf : ∀ x, (ocS x).length = 5 := fun _ => rfl
    rw [Nat.zero_add]
    exact ⟨owns_flatS hf h hx (r := 0) (by omega) rfl, owns_flatS hf h hx (r := 1) (by omega) rfl, owns_flatS hf h hx (r := 2) (by omega) rfl, owns_flatS hf h hx (r := 3) (by omega) rfl, owns_flatS hf h hx (r := 4) (by omega) rfl⟩
theorem cells6S {w : World} {b : Nat} {t : TypeId} {v0 v1 v2 v3 v4 v5 : Value} (x0 x1 x2 x3 x4 x5 : Value) (h : w.heap[b]? = some (.cells #[v0, v1, v2, v3, v4, v5] t (0, 0))) :
    ((((((w.setCell ⟨b, 0, none⟩ x0).setCell ⟨b, 1, none⟩ x1).setCell ⟨b, 2, none⟩ x2).setCell ⟨b, 3, none⟩ x3).setCell ⟨b, 4, none⟩ x4).setCell ⟨b, 5, none⟩ x5).heap[b]? = some (.cells #[x0, x1, x2, x3, x4, x5] t (0, 0)) := by
  rw [hsc_same (hsc_same (hsc_same (hsc_same (hsc_same (hsc_same h 0 x0) 1 x1) 2 x2) 3 x3) 4 x4) 5 x5]; rfl

set_option maxRecDepth 20000 in
set_option maxHeartbeats 16000000 in
theorem sl_form (s : VSys) (pa : Option Addr) (ca : Nat) (pc : Option Addr) (cc : Nat) (w : World) (hl : s.code.length ≤ 1000) (hc : VP w w.heap.size pc s.code) :
    Calls Try.prog 23 #[SysV s pa ca pc cc] w fun r w' => ∃ oa oc, r = .returned (SysV s pa ca oa oc) ∧ VP w' w'.heap.size oa s.code ∧ (∀ ad, oa = some ad → w.heap.size ≤ ad.block ∧ ad.block < w'.heap.size) ∧ Keep (fun _ => False) w w' := by
  obtain ⟨w1, hw1, hb1, hb2, hb3, hs1, hk1⟩ := box3 w (SysC s pa ca pc cc) #[.string ⟨#[]⟩, .int .i64 0, .slice none 0 0, .int .u32 0, .int .u32 0, .slice none 0 0] #[.string s.name, .int .i64 s.stage, .slice pa s.after.length ca, .int .u32 (s.all : Int), .int .u32 (s.none : Int), .slice none 0 0] 43 46 46
  have HK1 := hid hk1; have HB1 := hid hb1; have HB2 := hid hb2; have HB3 := hid hb3
  have HVP : Hid (∀ wy, Keep (fun _ => False) w wy → VP wy wy.heap.size pc s.code) := hid (fun wy hk => VP.mono (VP.low hc (Low.keep0 hk)) hk.size)
  have HL := hid hl
  have HSZ : Hid (w1.heap.size = w.heap.size + 1 + 1 + 1) := hid (by omega)
  obtain ⟨i0, hi0, hz0, hz1, hz2⟩ := info_parts' info_opS
  have HI := hid (And.intro hi0 (And.intro hz0 (And.intro hz1 hz2)))
  have c0 := cell_of hb1 (i := 0) (by rfl)
  have c1 := cell_of hb1 (i := 1) (by rfl)
  have c2 := cell_of hb1 (i := 2) (by rfl)
  have c3 := cell_of hb1 (i := 3) (by rfl)
  have c4 := cell_of hb1 (i := 4) (by rfl)
  have c5 := cell_of hb1 (i := 5) (by rfl)
  clear hi0 hz0 hz1 hz2 hb1 hb2 hb3 hk1 hs1 hc hl
  go_enter Try.func23, Try.ntmps23
  go_upto_region 2 with fail
  rw [← hw1]
  clear hw1 c0 c1 c2 c3 c4 c5
  obtain ⟨sb, hsb⟩ : ∃ sb, w.heap.size = sb := ⟨_, rfl⟩
  have HSB := hid hsb
  rw [hsb] at HB1 HB2 HB3 HSZ ⊢
  clear hsb
  go_wp2_with fail
  go_loopw [4, 5] (fun i _ wr => ∃ (k : Nat) (a : Option Addr) (c : Nat), k ≤ s.code.length ∧ i = iV k ∧ wr.heap[sb + 1 + 1]? = some (.cells #[.string s.name, .int .i64 s.stage, .slice pa s.after.length ca, .int .u32 (s.all : Int), .int .u32 (s.none : Int), .slice a k c] 46 (0, 0)) ∧ wr.ownsRow w1.heap.size 81 5 (.slice a k c) k ((s.code.take k).flatMap ocS) ∧ Keep (fun k => k = sb + 1 + 1) w1 wr) (fun i _ _ => s.code.length + 1 - (intOf i).toNat)
  case atStart => exact ⟨0, none, 0, by omega, rfl, HB3.out, World.ownsRow_nil _ _ _ _, Keep.refl _ _⟩
  case round =>
    obtain ⟨k, a, c, hk, rfl, hbo, hown, hkr⟩ := hrel
    have HBO := hid hbo; have HO := hid hown; have HKR := hid hkr
    have HKW : Hid (Keep (fun _ => False) w wr) := hid (keep_new HK1.out hkr (fun k e => by have := HSB.out; omega))
    have HBS : Hid (wr.heap[sb]? = some (.cells (SysC s pa ca pc cc) 43 (0, 0))) := hid (hkr.get HB1.out (by omega))
    have c5 : wr.cell? ⟨sb, 5, none⟩ = some (.slice pc s.code.length cc) := cell_of HBS.out (by rfl)
    clear hbo hown hkr
    have hl := HL.out
    by_cases hlt : k < s.code.length
    · obtain ⟨x, hx⟩ : ∃ x, s.code[k]? = some x := ⟨s.code[k], by simp [hlt]⟩
      obtain ⟨b, off, rfl, hb, x0, x1, x2, x3, x4⟩ := VP.at (HVP.out _ HKW.out) hx
      have hin : (0 : Int) ≤ (k : Int) ∧ (k : Int) < (s.code.length : Int) := ⟨by omega, by omega⟩
      have HNX : Hid ((s.code.take (k + 1)).flatMap ocS = (s.code.take k).flatMap ocS ++ ocS x) := hid (by rw [take_next hx, List.flatMap_append]; simp)
      generalize (s.code.take k).flatMap ocS = cl at *
      obtain ⟨w5, hw5, hb5, hs5, hk5⟩ := box1 wr (OC x) 54
      have HK5 := hid (HKR.out.trans (hk5.mono (T := fun k => k = sb + 1 + 1) (fun _ _ h => h.elim)))
      have HB5 := hid hb5
      have HO5 := hid (owns_keep (w' := w5) HO.out (fun j hj => hk5.block j (HO.out.lt j hj).2 id))
      have HBO5 := hid (hk5.get HBO.out id)
      clear hx hb hb5 hs5 hk5
      go_upto_region 6 with fail
      rw [← hw5]
      clear hw5 x0 x1 x2 x3 x4 c5
      generalize wr.heap.size = xb at *
      have y0 : w5.cell? ⟨xb, 0, none⟩ = some (.int .i64 x.code) := cell_of HB5.out (by rfl)
      have y1 : w5.cell? ⟨xb, 1, none⟩ = some (.int .i64 x.a) := cell_of HB5.out (by rfl)
      have y2 : w5.cell? ⟨xb, 2, none⟩ = some (.int .i64 x.b) := cell_of HB5.out (by rfl)
      have y3 : w5.cell? ⟨xb, 3, none⟩ = some (.int .i64 x.c) := cell_of HB5.out (by rfl)
      have y4 : w5.cell? ⟨xb, 4, none⟩ = some (.int .i64 x.k) := cell_of HB5.out (by rfl)
      have z5 : w5.cell? ⟨sb + 1 + 1, 5, none⟩ = some (.slice a k c) := cell_of HBO5.out (by rfl)
      have HBW : Hid (sb + 1 + 1 < w5.heap.size) := hid (lt_of_heap HBO5.out)
      have HNB : Hid ((Value.slice a k c).ownBlock ≠ some (sb + 1 + 1)) := hid (fun e => by have := (HO5.out.lt _ e).1; have := HSZ.out; omega)
      go_wp2_with (at_builtin; go_loud (refine wpList_append_rd rfl _ _ _ rfl w1.heap.size _ i0 _ 5 40 Try.underlying30 HI.out.1 HI.out.2.1 HI.out.2.2.1 HI.out.2.2.2 rfl (by decide) _ k cl (by rfl) (HO5.out.alloc _) _ 1 (ocS x) (by rfl) (rd_block (heap_alloc_new w5 _) (by simp [ocS]) (by simp [ocS, Value.oneCell'])) (by unfold maxLen; omega) (by omega) (by have := HK5.out.size; simp; omega) ?_; intro v' w6 hown6 hgrow6 hat6 hn6; obtain ⟨vr, ve, rfl⟩ := owns_val hown6; rw [← HNX.out] at hown6; have HO6 := hid hown6; have HKO := hid ((Keep.refl (fun j => (Value.slice a k c).ownBlock = some j) w5).alloc _ |>.grown hgrow6 (fun k hk => .inr hk)); have HK6 := hid (HK5.out.trans' HKO.out (fun j hj h => by have := (HO5.out.lt j h).1; omega)); have HB6 := hid (HKO.out.get HBO5.out HNB.out); have HN6 : Hid ((Value.slice vr (k + 1) ve).ownBlock ≠ some (sb + 1 + 1)) := hid (fun e => by have := (HO6.out.lt _ e).1; have := HSZ.out; omega); have q5 : w6.cell? ⟨sb + 1 + 1, 5, none⟩ = some (.slice a k c) := cell_of HB6.out (by rfl); have f5 : w6.frozen? ⟨sb + 1 + 1, 5, none⟩ = false := free_of HB6.out 5; clear hown6 hgrow6 hat6 hn6 y0 y1 y2 y3 y4 z5))
      go_roundw
      case rel => exact ⟨k + 1, vr, ve, by omega, by go_num, by rw [hsc_same HB6.out]; rfl, owns_keep HO6.out (fun j hj => hsc_ne _ (fun e => HN6.out (e ▸ hj))), HK6.out.setCell (p := ⟨sb + 1 + 1, 5, none⟩) rfl _⟩
      case measure => simp [intOf]; omega
    · obtain rfl : k = s.code.length := by omega
      have HVF : Hid (VP wr wr.heap.size a s.code) := hid (vp_ownS rfl (by have := HO.out; rwa [List.take_length] at this))
      obtain ⟨tb, htb⟩ : ∃ tb, sb + 1 = tb := ⟨_, rfl⟩
      have HTB := hid htb
      have HB2' : Hid (wr.heap[tb]? = some (.cells #[.string ⟨#[]⟩, .int .i64 0, .slice none 0 0, .int .u32 0, .int .u32 0, .slice none 0 0] 46 (0, 0))) := hid (by rw [← htb]; exact HKR.out.get HB2.out (by omega))
      rw [htb] at HBO ⊢
      clear htb
      have z0 := cell_of HB2'.out (i := 0) (by rfl)
      have z1 := cell_of HB2'.out (i := 1) (by rfl)
      have z2 := cell_of HB2'.out (i := 2) (by rfl)
      have z3 := cell_of HB2'.out (i := 3) (by rfl)
      have z4 := cell_of HB2'.out (i := 4) (by rfl)
      have z5 := cell_of HB2'.out (i := 5) (by rfl)
      have f0 := free_of HB2'.out 0
      have f1 := free_of HB2'.out 1
      have f2 := free_of HB2'.out 2
      have f3 := free_of HB2'.out 3
      have f4 := free_of HB2'.out 4
      have f5 := free_of HB2'.out 5
      have q0 := cell_of HBO.out (i := 0) (by rfl)
      have q1 := cell_of HBO.out (i := 1) (by rfl)
      have q2 := cell_of HBO.out (i := 2) (by rfl)
      have q3 := cell_of HBO.out (i := 3) (by rfl)
      have q4 := cell_of HBO.out (i := 4) (by rfl)
      have q5 := cell_of HBO.out (i := 5) (by rfl)
      have HB4 := hid (cells6S (.string s.name) (.int .i64 s.stage) (.slice pa s.after.length ca) (.int .u32 (s.all : Int)) (.int .u32 (s.none : Int)) (.slice a s.code.length c) HB2'.out)
      have HK4 : Hid (Keep (fun k => k = tb) wr ((((((wr.setCell ⟨tb, 0, none⟩ (.string s.name)).setCell ⟨tb, 1, none⟩ (.int .i64 s.stage)).setCell ⟨tb, 2, none⟩ (.slice pa s.after.length ca)).setCell ⟨tb, 3, none⟩ (.int .u32 (s.all : Int))).setCell ⟨tb, 4, none⟩ (.int .u32 (s.none : Int))).setCell ⟨tb, 5, none⟩ (.slice a s.code.length c))) := hid (((((((Keep.refl (fun k => k = tb) wr).setCell (p := ⟨tb, 0, none⟩) rfl _).setCell (p := ⟨tb, 1, none⟩) rfl _).setCell (p := ⟨tb, 2, none⟩) rfl _).setCell (p := ⟨tb, 3, none⟩) rfl _).setCell (p := ⟨tb, 4, none⟩) rfl _).setCell (p := ⟨tb, 5, none⟩) rfl _)
      have HOWN := HO
      have HFIN : Hid (∀ w3, Keep (fun k => k = tb) wr w3 → VP w3 w3.heap.size a s.code ∧ (∀ ad, a = some ad → w.heap.size ≤ ad.block ∧ ad.block < w3.heap.size) ∧ Keep (fun _ => False) w w3) := hid (fun w3 hk => by
        refine ⟨?_, ?_, ?_⟩
        · have ho := owns_keep (w' := w3) HOWN.out (fun k hk' => hk.block k (HOWN.out.lt k hk').2 (fun e => by
            have h1 := (HOWN.out.lt k hk').1
            have h2 := HTB.out
            have h3 := HSZ.out
            omega))
          rw [List.take_length] at ho
          exact vp_ownS rfl ho
        · rintro ad rfl
          rcases owns_block HOWN.out with ⟨e, _⟩ | ⟨g, _, _, e, hb, hg, _⟩
          · cases e
          · injection e with e
            injection e with e
            subst e
            have h1 := lt_of_heap hg
            have h2 := hk.size
            have h3 := HK1.out.size
            exact ⟨by show w.heap.size ≤ g; omega, by show g < w3.heap.size; omega⟩
        · exact keep_new HKW.out hk (fun k e => by have := HTB.out; have := HSB.out; omega))
      go_wp2_with fail
      clear z0 z1 z2 z3 z4 z5 f0 f1 f2 f3 f4 f5 q0 q1 q2 q3 q4 q5
      generalize ((((((wr.setCell ⟨tb, 0, none⟩ (.string s.name)).setCell ⟨tb, 1, none⟩ (.int .i64 s.stage)).setCell ⟨tb, 2, none⟩ (.slice pa s.after.length ca)).setCell ⟨tb, 3, none⟩ (.int .u32 (s.all : Int))).setCell ⟨tb, 4, none⟩ (.int .u32 (s.none : Int))).setCell ⟨tb, 5, none⟩ (.slice a s.code.length c)) = w3 at *
      (try simp only [Exit.inBlock, Exit.then])
      refine bodyPost_ret (results_c rfl _ rfl (run_loadVar_row _ tb _ 46 _ _ _ HB4.out Try.underlying46 rfl (by kernel_rfl))) rfl ?_
      exact ⟨a, c, rfl, HFIN.out w3 HK4.out⟩
end Go.Proofs.Ytcbboaoakgngkaa

namespace Go.Proofs.Sch

/-- The 32 bits of a number. -/
def bitsL (n : Nat) : List Bool := (List.range 32).map n.testBit
theorem bitsL_len (n : Nat) : (bitsL n).length = 32 := by unfold bitsL; rw [List.length_map, List.length_range]
theorem bitsL_at {n i : Nat} (h : i < 32) : (bitsL n)[i]? = some (n.testBit i) := by
  unfold bitsL
  rw [List.getElem?_map, List.getElem?_range h]; rfl
theorem tb_mod (n i : Nat) : n.testBit i = decide (n / 2 ^ i % 2 = 1) := Nat.testBit_eq_decide_div_mod_eq
theorem tb_high {n i : Nat} (h : n < 4294967296) (hi : 32 ≤ i) : n.testBit i = false := by
  apply Nat.testBit_lt_two_pow
  exact Nat.lt_of_lt_of_le h (by
    have : (2 : Nat) ^ 32 ≤ 2 ^ i := Nat.pow_le_pow_right (by omega) hi
    simpa using this)
theorem tb_out : ∀ i, i < 32 → Nat.testBit 4261412865 i = decide (i < 1 ∨ 24 < i) := by decide +kernel
theorem tb_in : ∀ i, i < 32 → Nat.testBit 33554430 i = decide (1 ≤ i ∧ i ≤ 24) := by decide +kernel
theorem zero_tb {n : Nat} (h : n < 4294967296) : n = 0 ↔ ∀ i, i < 32 → n.testBit i = false := by
  constructor
  · rintro rfl i _; exact Nat.zero_testBit i
  · intro h2
    apply Nat.eq_of_testBit_eq
    intro i
    rw [Nat.zero_testBit]
    by_cases hi : i < 32
    · exact h2 i hi
    · exact tb_high h (by omega)
theorem isSig_bits {n : Nat} (h : n < 4294967296) : isSig n = true ↔ ∀ i, i < 32 → n.testBit i = true → 1 ≤ i ∧ i ≤ 24 := by
  unfold isSig
  rw [decide_eq_true_iff, zero_tb (Nat.lt_of_le_of_lt Nat.and_le_left h)]
  constructor
  · intro h2 i hi hb
    have := h2 i hi
    rw [Nat.testBit_and, hb, Bool.true_and, tb_out i hi] at this
    have := of_decide_eq_false this
    omega
  · intro h2 i hi
    rw [Nat.testBit_and, tb_out i hi]
    cases hb : n.testBit i
    · rfl
    · have := h2 i hi hb
      rw [Bool.true_and, decide_eq_false (by omega)]
theorem meets_bits {a b : Nat} (ha : a < 4294967296) (hs : isSig a = true) : meetsB a b = true ↔ ∃ i, i < 32 ∧ a.testBit i = true ∧ b.testBit i = true := by
  have hlt : a &&& b &&& 33554430 < 4294967296 := Nat.lt_of_le_of_lt Nat.and_le_left (Nat.lt_of_le_of_lt Nat.and_le_left ha)
  unfold meetsB
  rw [decide_eq_true_iff, ne_eq, zero_tb hlt]
  constructor
  · intro h
    apply Classical.byContradiction
    intro h2
    refine h fun i hi => ?_
    rw [Nat.testBit_and, Nat.testBit_and]
    cases h3 : a.testBit i
    · simp
    · cases h4 : b.testBit i
      · simp
      · exact absurd ⟨i, hi, h3, h4⟩ h2
  · rintro ⟨i, hi, h1, h2⟩ h
    have := h i hi
    have h3 := (isSig_bits ha).1 hs i hi h1
    rw [Nat.testBit_and, Nat.testBit_and, h1, h2, tb_in i hi, decide_eq_true h3] at this
    cases this
end Go.Proofs.Sch

namespace Go.Proofs.Ytcbboaoakgngkaa
open Go.RowKit Go.Proofs.Heap Go.Proofs.Sch

/-- The row of a number's bits, of which k are found. -/
def bA (n k : Nat) : Array Value := ((List.range 32).map (fun j => Value.bool (decide (j < k) && n.testBit j))).toArray
theorem bA_size (n k : Nat) : (bA n k).size = 32 := by simp [bA]
theorem bA_get {n k i : Nat} (h : i < 32) : (bA n k)[i]? = some (.bool (decide (i < k) && n.testBit i)) := by simp [bA, h]
theorem bA_set {n k : Nat} (h : k < 32) : (bA n k).setIfInBounds k (.bool (n.testBit k)) = bA n (k + 1) := by
  apply Array.ext_getElem?
  intro i
  rw [Array.getElem?_setIfInBounds, bA_size]
  by_cases e : k = i
  · subst e; rw [if_pos rfl, if_pos h, bA_get h, decide_eq_true (by omega), Bool.true_and]
  · rw [if_neg e]
    by_cases hi : i < 32
    · rw [bA_get hi, bA_get hi]
      by_cases hik : i < k
      · rw [decide_eq_true hik, decide_eq_true (by omega)]
      · rw [decide_eq_false hik, decide_eq_false (by omega)]
    · rw [Array.getElem?_eq_none (by rw [bA_size]; omega), Array.getElem?_eq_none (by rw [bA_size]; omega)]
theorem bA_one (n k : Nat) : ∀ v ∈ (bA n k).toList, v.oneCell' = true := by
  intro v hv
  simp only [bA, List.mem_map, List.mem_range] at hv
  obtain ⟨j, _, rfl⟩ := hv
  rfl
theorem info_bits : (Try.prog.info? 86).map (·.size) = some 32 := by kernel_rfl
theorem zero_bits (n : Nat) (w : World) : (zeroValue 86).run Try.prog w = .ok (.agg (bA n 0)) w := by kernel_rfl
/-- The bits, k of them found, in a block. -/
def BB (n k : Nat) (w : World) (u : Nat) : Prop := w.heap[u]? = some (.cells (bA n k) 86 (0, 0))
theorem BB.keep {n k u : Nat} {S : Nat → Prop} {w w' : World} (h : BB n k w u) (hk : Keep S w w') (hs : ¬ S u) : BB n k w' u := hk.get h hs
theorem BB.cell {n k u i : Nat} {w : World} (h : BB n k w u) (hi : i < 32) : w.cell? ⟨u, i, none⟩ = some (.bool (decide (i < k) && n.testBit i)) := cell_of h (bA_get hi)
theorem BB.bit {n u i : Nat} {w : World} (h : BB n 32 w u) (hi : i < 32) : w.cell? ⟨u, i, none⟩ = some (.bool (n.testBit i)) := by
  have := h.cell hi
  rwa [decide_eq_true hi, Bool.true_and] at this
theorem bits_store {w : World} {u n' k' : Nat} (hu : BB n' k' w u) (n k : Nat) :
    ∃ w', (storeCells ⟨u, 0, none⟩ (bA n k).toList).run Try.prog w = .ok () w' ∧ BB n k w' u ∧ Keep (fun j => j = u) w w' := by
  have h := run_storeCells_at Try.prog u 0 _ (bA n k).toList 0 _ w hu (by rw [Array.length_toList, bA_size, bA_size]; omega) (bA_one n k)
  refine ⟨_, h, ?_, ?_⟩
  · unfold BB
    refine (setRow_heap w u _ _ _ _ hu).trans ?_
    have e : (List.take 0 (bA n' k').toList ++ (bA n k).toList ++ List.drop (0 + (bA n k).toList.length) (bA n' k').toList).toArray = bA n k := by
      apply Array.ext'
      have h1 : (bA n' k').toList.length = 32 := by rw [Array.length_toList, bA_size]
      have h2 : (bA n k).toList.length = 32 := by rw [Array.length_toList, bA_size]
      simp [h1, h2]
    exact congrArg (fun c => some (Obj.cells c 86 (0, 0))) e
  · exact (Keep.refl (fun j => j = u) w).setRow rfl _

theorem bits_new (n m : Nat) (w : World) :
    ∃ w', (storeCells ⟨w.heap.size, 0, none⟩ (bA n 32).toList).run Try.prog (w.alloc (.cells (bA m 0) 86)) = .ok () w' ∧ BB n 32 w' w.heap.size ∧ Keep (fun _ => False) w w' ∧ w.heap.size < w'.heap.size := by
  have hbb : BB m 0 (w.alloc (.cells (bA m 0) 86)) w.heap.size := heap_alloc_new w _
  obtain ⟨w', h, hb, hk⟩ := bits_store hbb n 32
  refine ⟨w', h, hb, keep_new ((Keep.refl _ w).alloc _) hk (fun k e => by omega), ?_⟩
  have := hk.size
  simp at this
  omega

set_option maxRecDepth 20000 in
set_option maxHeartbeats 4000000 in
theorem r_bits (n : Nat) (hn : n < 4294967296) (w : World) : Calls Try.prog 38 #[.int .u32 (n : Int)] w fun r w' => r = .returned (.agg (bA n 32)) ∧ Keep (fun _ => False) w w' := by
  have hz := zero_bits n
  have hsz := bA_size n 0
  obtain ⟨wa, hwa⟩ : ∃ wa, w.alloc (.cells (bA n 0) 86) = wa := ⟨_, rfl⟩
  have hba : BB n 0 wa w.heap.size := by rw [← hwa]; exact heap_alloc_new w _
  have hka : Keep (fun _ => False) w wa := by rw [← hwa]; exact (Keep.refl _ w).alloc _
  have hlt : w.heap.size < wa.heap.size := by rw [← hwa]; simp
  have hbb : BB n 0 (wa.alloc (.cells (bA n 0) 86)) wa.heap.size := heap_alloc_new wa _
  obtain ⟨w3, hst, hb3, hk3⟩ := bits_store hbb n 0
  have HBA := hid (hba.keep ((Keep.refl (fun j => j = wa.heap.size) wa).alloc _ |>.trans hk3) (by omega))
  have HK3 := hid (keep_new (hka.alloc _) hk3 (fun k e => by have := hka.size; omega))
  have HB3 := hid hb3; have HLT := hid hlt
  clear hba hka hbb hb3 hk3
  go_enter Try.func38, Try.ntmps38
  go_upto_region 1 with fail
  clear hwa
  go_wp2_with fail
  clear hst hz hsz
  generalize wa.heap.size = vb at *
  go_loopw [0, 4] (fun x i wr => ∃ k : Nat, k ≤ 32 ∧ i = iV k ∧ x = .int .u32 ((n / 2 ^ k : Nat) : Int) ∧ BB n k wr vb ∧ BB n 0 wr w.heap.size ∧ Keep (fun j => j = vb) w3 wr) (fun _ i _ => 33 - (intOf i).toNat)
  case atStart => exact ⟨0, by omega, rfl, by simp, HB3.out, HBA.out, Keep.refl _ _⟩
  case round =>
    obtain ⟨k, hk, rfl, rfl, hb, hu, hkr⟩ := hrel
    have HB := hid hb; have HU := hid hu; have HKR := hid hkr
    clear hb hu hkr
    by_cases hlt : k < 32
    · have hltI : (k : Int) < 32 := by omega
      have hin : (0 : Int) ≤ (k : Int) ∧ (k : Int) < 32 := ⟨by omega, by omega⟩
      have HT := hid (tb_mod n k)
      have HN : Hid (n / 2 ^ (k + 1) = n / 2 ^ k / 2) := hid (by rw [Nat.pow_succ, Nat.div_div_eq_div_mul])
      have hm : n / 2 ^ k < 4294967296 := Nat.lt_of_le_of_lt (Nat.div_le_self _ _) hn
      generalize n / 2 ^ k = m at *
      have c0 := HB.out.cell hlt
      have f0 : wr.frozen? ⟨vb, k, none⟩ = false := free_of HB.out k
      have m1 : (m : Int).tmod 2 = ((m % 2 : Nat) : Int) := by rw [Int.tmod_eq_emod_of_nonneg (by omega)]; omega
      have m2 : (m : Int).tdiv 2 = ((m / 2 : Nat) : Int) := by rw [Int.tdiv_eq_ediv_of_nonneg (by omega)]; omega
      have m3 : (m : Int) % 2 = ((m % 2 : Nat) : Int) := by omega
      have m4 : (m : Int) / 2 = ((m / 2 : Nat) : Int) := by omega
      have m5 : (((m % 2 : Nat) : Int) == 1) = n.testBit k := by
        rw [HT.out]
        by_cases h : m % 2 = 1
        · rw [h]; rfl
        · rw [decide_eq_false h, beq_eq_false_iff_ne.2 (by omega)]
      have HNX : Hid (BB n (k + 1) (wr.setCell ⟨vb, k, none⟩ (.bool (n.testBit k))) vb) := hid (by
        unfold BB; rw [hsc_same HB.out, bA_set hlt])
      have HUX : Hid (BB n 0 (wr.setCell ⟨vb, k, none⟩ (.bool (n.testBit k))) w.heap.size) := hid (HU.out.keep ((Keep.refl (fun j => j = vb) wr).setCell (p := ⟨vb, k, none⟩) rfl _) (by have := HLT.out; omega))
      have HKX := hid (HKR.out.setCell (p := ⟨vb, k, none⟩) rfl (.bool (n.testBit k)))
      generalize n.testBit k = tb at *
      generalize m % 2 = mr at *
      generalize m / 2 = mq at *
      go_wp2
      go_roundw
      case rel => exact ⟨k + 1, by omega, by go_num, by rw [HN.out], HNX.out, HUX.out, HKX.out⟩
      case measure => simp [intOf]; omega
    · obtain rfl : k = 32 := by omega
      have hld : (loadVar 86 ⟨vb, 0, none⟩).run Try.prog wr = .ok (.agg (bA n 32)) wr := run_loadVar_row wr vb _ 86 _ (0, 0) _ HB.out Try.underlying86 rfl (by rw [info_bits, bA_size])
      obtain ⟨w5, hst5, hb5, hk5⟩ := bits_store HU.out n 32
      have hsz := bA_size n 32
      have HB5 := hid hb5
      have HK5 := hid (keep_new (keep_new HK3.out HKR.out (fun k e => by have := HLT.out; omega)) hk5 (fun k e => by omega))
      clear hb5 hk5
      go_wp2_with (refine wpList_load_row rfl 86 _ rfl _ rfl _ _ _ _ HB.out Try.underlying86 rfl (by rw [info_bits, bA_size]) ?_)
      (try simp only [Exit.inBlock, Exit.then])
      refine bodyPost_ret (results_cell_row rfl _ _ _ _ _ _ _ rfl HB5.out Try.underlying86 rfl (by rw [info_bits, bA_size])) rfl ?_
      exact ⟨rfl, HK5.out⟩

set_option maxRecDepth 20000 in
set_option maxHeartbeats 4000000 in
theorem r_is (n : Nat) (hn : n < 4294967296) (w : World) : Calls Try.prog 57 #[.int .u32 (n : Int)] w fun r w' => r = .returned (.bool (isSig n)) ∧ Keep (fun _ => False) w w' := by
  have hz := zero_bits 0
  have hsz := bA_size n 32
  have HS := hid (isSig_bits hn)
  have HB := hid (r_bits n hn w)
  clear hn
  generalize isSig n = R at *
  go_enter Try.func57, Try.ntmps57
  go_wp2_with fail
  refine HB.out.mono ?_
  rintro r w1 ⟨rfl, hk1⟩
  obtain ⟨w2, hst, hb2, hk2, hlt2⟩ := bits_new n 0 w1
  have HB2 := hid hb2; have HK2 := hid (hk1.trans hk2)
  clear hk1 hb2 hk2 HB
  go_wp2_with fail
  clear hst hz hsz
  generalize w1.heap.size = vb at *
  go_loopw [4] (fun i wr => ∃ k : Nat, k ≤ 32 ∧ i = iV k ∧ (∀ j, j < k → n.testBit j = true → 1 ≤ j ∧ j ≤ 24) ∧ w2 = wr) (fun i _ => 33 - (intOf i).toNat)
  case atStart => exact ⟨0, by omega, rfl, fun j h => by omega, rfl⟩
  case round =>
    obtain ⟨k, hk, rfl, hall, rfl⟩ := hrel
    have HA := hid hall
    clear hall
    by_cases hlt : k < 32
    · have hltI : (k : Int) < 32 := by omega
      have hin : (0 : Int) ≤ (k : Int) ∧ (k : Int) < 32 := ⟨by omega, by omega⟩
      have c0 := HB2.out.bit hlt
      have d1 : decide ((k : Int) < 1) = decide (k < 1) := decide_eq_decide.2 (by omega)
      have d2 : decide ((24 : Int) < (k : Int)) = decide (24 < k) := decide_eq_decide.2 (by omega)
      by_cases hout : k < 1 ∨ 24 < k
      · have e : ∀ x : Bool, (decide (k < 1) = true ∨ decide (24 < k) = true) := fun _ => by
          rcases hout with h | h
          · exact .inl (decide_eq_true h)
          · exact .inr (decide_eq_true h)
        cases hb : n.testBit k
        · rw [hb] at c0
          have HN : Hid (∀ j, j < k + 1 → n.testBit j = true → 1 ≤ j ∧ j ≤ 24) := hid (fun j hj h => by
            by_cases hjk : j < k
            · exact HA.out j hjk h
            · obtain rfl : j = k := by omega
              rw [hb] at h; cases h)
          clear hb
          go_wp2
          go_roundw
          case rel => exact ⟨k + 1, by omega, by go_num, HN.out, by first | rfl | trivial⟩
          case measure => simp [intOf]; omega
        · rw [hb] at c0
          have G : Hid (R = false) := hid (by
            cases hR : R
            · rfl
            · have := HS.out.1 hR k hlt hb; omega)
          clear hb
          rcases hout with h | h
          · have g1 : decide ((k : Int) < 1) = true := decide_eq_true (by omega)
            have g2 : decide (k < 1) = true := decide_eq_true h
            clear d1 d2 e
            go_wp2
            go_ret
            exact ⟨by rw [G.out]; rfl, HK2.out⟩
          · have g1 : decide ((k : Int) < 1) = false := decide_eq_false (by omega)
            have g2 : decide (k < 1) = false := decide_eq_false (by omega)
            have g3 : decide ((24 : Int) < (k : Int)) = true := decide_eq_true (by omega)
            have g4 : decide (24 < k) = true := decide_eq_true h
            clear d1 d2 e
            go_wp2
            go_ret
            exact ⟨by rw [G.out]; rfl, HK2.out⟩
      · have g1 : decide ((k : Int) < 1) = false := decide_eq_false (by omega)
        have g2 : decide (k < 1) = false := decide_eq_false (by omega)
        have g3 : decide ((24 : Int) < (k : Int)) = false := decide_eq_false (by omega)
        have g4 : decide (24 < k) = false := decide_eq_false (by omega)
        have HN : Hid (∀ j, j < k + 1 → n.testBit j = true → 1 ≤ j ∧ j ≤ 24) := hid (fun j hj h => by
          by_cases hjk : j < k
          · exact HA.out j hjk h
          · omega)
        clear d1 d2
        generalize n.testBit k = tb at *
        cases tb
        · go_wp2
          go_roundw
          case rel => exact ⟨k + 1, by omega, by go_num, HN.out, by first | rfl | trivial⟩
          case measure => simp [intOf]; omega
        · go_wp2
          go_roundw
          case rel => exact ⟨k + 1, by omega, by go_num, HN.out, by first | rfl | trivial⟩
          case measure => simp [intOf]; omega
    · obtain rfl : k = 32 := by omega
      have G : Hid (R = true) := hid (HS.out.2 HA.out)
      go_wp2
      go_ret
      exact ⟨by rw [G.out]; rfl, HK2.out⟩

/-- The ids below k of a number. -/
def idsT (n k : Nat) : List Int := ((List.range k).filter (fun i => decide (1 ≤ i) && n.testBit i)).map (fun i : Nat => (i : Int))
theorem idsT_next (n k : Nat) (hk : 1 ≤ k) : idsT n (k + 1) = idsT n k ++ if n.testBit k = true then [(k : Int)] else [] := by
  unfold idsT
  rw [List.range_succ, List.filter_append, List.map_append]
  congr 1
  cases h : n.testBit k
  · rw [List.filter_cons_of_neg (by rw [h]; simp), if_neg Bool.false_ne_true]; rfl
  · rw [List.filter_cons_of_pos (by rw [h, decide_eq_true hk]; rfl), if_pos rfl]; rfl
theorem idsT_len (n k : Nat) : (idsT n k).length ≤ k := by
  unfold idsT
  rw [List.length_map]
  exact Nat.le_trans (List.length_filter_le _ _) (by rw [List.length_range]; omega)
theorem idsT_mem {n k : Nat} {i : Int} : i ∈ idsT n k ↔ ∃ j : Nat, i = j ∧ 1 ≤ j ∧ j < k ∧ n.testBit j = true := by
  unfold idsT
  rw [List.mem_map]
  constructor
  · rintro ⟨j, hj, rfl⟩
    obtain ⟨h1, h2⟩ := List.mem_filter.1 hj
    rw [Bool.and_eq_true, decide_eq_true_iff] at h2
    exact ⟨j, rfl, h2.1, List.mem_range.1 h1, h2.2⟩
  · rintro ⟨j, rfl, h1, h2, h3⟩
    exact ⟨j, List.mem_filter.2 ⟨List.mem_range.2 h2, by rw [h3, decide_eq_true h1]; rfl⟩, rfl⟩
theorem info_i64' : (Try.prog.info? 3).map (fun i => (i.zero, i.size, i.bytes)) = some (some (.int .i64 0), 1, 8) := by kernel_rfl
set_option maxRecDepth 20000 in
set_option maxHeartbeats 4000000 in
theorem r_ids (n : Nat) (hn : n < 4294967296) (w : World) : Calls Try.prog 36 #[.int .u32 (n : Int)] w fun r w' => ∃ a c, r = .returned (.slice a (idsT n 25).length c) ∧ w'.ownsRow w.heap.size 3 1 (.slice a (idsT n 25).length c) (idsT n 25).length ((idsT n 25).map (fun i => Value.int .i64 i)) ∧ Keep (fun _ => False) w w' := by
  have hz := zero_bits 0
  have hsz := bA_size n 32
  have HB := hid (r_bits n hn w)
  obtain ⟨i0, hi0, hz0, hz1, hz2⟩ := info_parts' info_i64'
  have HI := hid (And.intro hi0 (And.intro hz0 (And.intro hz1 hz2)))
  clear hi0 hz0 hz1 hz2
  clear hn
  go_enter Try.func36, Try.ntmps36
  go_wp2_with fail
  refine HB.out.mono ?_
  rintro r w1 ⟨rfl, hk1⟩
  obtain ⟨w2, hst, hb2, hk2, hlt2⟩ := bits_new n 0 w1
  have HW := hid hk1.size
  have HB2 := hid hb2; have HK2 := hid (hk1.trans hk2); have HL2 := hid hlt2
  clear hk1 hb2 hk2 HB hlt2
  go_upto_region 2 with fail
  clear hst hz hsz
  obtain ⟨w3, hw3, hb3, hs3, hk3⟩ := box1 w2 #[] 3
  have hm0 : w3.ownsRow w2.heap.size 3 1 (.slice (some ⟨w2.heap.size, 0, none⟩) 0 0) 0 ((idsT n 1).map (fun i => Value.int .i64 i)) := by
    rw [hw3]; exact World.ownsRow_made w2 #[] 0 (Nat.le_refl _) (by unfold maxLen; omega) (by simp)
  have HM0 := hid hm0; have HW2 := hid HK2.out.size; have HS3 := hid (Nat.le_refl w2.heap.size); have HK3 := hid (HK2.out.trans hk3)
  have HKS3 := hid hk3.size
  have HB3 := hid (HB2.out.keep hk3 id)
  clear hm0 hk3 hb3 hs3
  go_upto_region 3 with fail
  rw [← hw3]
  clear hw3
  generalize w1.heap.size = vb at *
  go_wp2_with fail
  go_loopw [4, 5] (fun o i wr => ∃ (k : Nat) (a : Option Addr) (c' : Nat), 1 ≤ k ∧ k ≤ 25 ∧ i = iV k ∧ o = .slice a (idsT n k).length c' ∧ wr.ownsRow w2.heap.size 3 1 (.slice a (idsT n k).length c') (idsT n k).length ((idsT n k).map (fun i => Value.int .i64 i)) ∧ BB n 32 wr vb ∧ w2.heap.size ≤ wr.heap.size ∧ Keep (fun _ => False) w wr) (fun _ i _ => 26 - (intOf i).toNat)
  case atStart => exact ⟨1, _, _, by omega, by omega, rfl, rfl, HM0.out, HB3.out, HKS3.out, HK3.out⟩
  case round =>
    obtain ⟨k, a, c', hk1, hk, rfl, rfl, hown, hb, hws, hkr⟩ := hrel
    have HO := hid hown; have HB := hid hb; have HKR := hid hkr
    have HKS : Hid (w2.heap.size ≤ wr.heap.size) := hid hws
    clear hown hb hkr hws
    by_cases hlt : k < 25
    · have hltI : (k : Int) ≤ 24 := by omega
      have hin : (0 : Int) ≤ (k : Int) ∧ (k : Int) < 32 := ⟨by omega, by omega⟩
      have c0 := HB.out.bit (show k < 32 by omega)
      have HNX := hid (idsT_next n k hk1)
      have HLE := hid (idsT_len n k)
      generalize idsT n k = l at *
      cases hb : n.testBit k
      · rw [hb] at c0
        have HE : Hid (idsT n (k + 1) = l) := hid (by rw [HNX.out, hb]; simp)
        clear hb
        go_wp2
        go_roundw
        case rel => exact ⟨k + 1, a, c', by omega, by omega, by go_num, by rw [HE.out], by rw [HE.out]; exact HO.out, HB.out, HKS.out, HKR.out⟩
        case measure => simp [intOf]; omega
      · rw [hb] at c0
        have HE : Hid (idsT n (k + 1) = l ++ [(k : Int)]) := hid (by rw [HNX.out, hb]; simp)
        have HLX : Hid ((idsT n (k + 1)).length = l.length + 1) := hid (by rw [HE.out, List.length_append]; rfl)
        have HM2 : Hid ((idsT n (k + 1)).map (fun i => Value.int .i64 i) = l.map (fun i => Value.int .i64 i) ++ [.int .i64 (k : Int)]) := hid (by rw [HE.out, List.map_append]; rfl)
        clear hb
        go_wp2_with (at_builtin; go_loud (refine wpList_append_rd rfl _ _ _ rfl w2.heap.size _ i0 _ 1 8 Try.underlying24 HI.out.1 HI.out.2.1 HI.out.2.2.1 HI.out.2.2.2 rfl (by decide) _ l.length _ (by rfl) (HO.out.alloc _) _ 1 [.int .i64 (k : Int)] (by rfl) (rd_block (heap_alloc_new wr _) (by simp) (by simp [Value.oneCell'])) (by have := HLE.out; unfold maxLen; omega) (by have := HLE.out; omega) (by have := HS3.out; have := HKS.out; simp; omega) ?_; intro v' w6 hown6 hgrow6 hat6 hn6; obtain ⟨vr, ve, rfl⟩ := owns_val hown6; rw [← HM2.out, ← HLX.out] at hown6; rw [← HLX.out]; have HO6 := hid hown6; have HK6 := hid ((HKR.out.alloc _).grown hgrow6 (fun k hk => .inl (Nat.le_trans HW2.out (HO.out.lt k hk).1))); have HB6 := hid (HB.out.keep ((Keep.refl (fun j => some j = (Value.slice a l.length c').ownBlock) wr).alloc _ |>.grown hgrow6 (fun k hk => .inr hk.symm)) (fun e => by have := (HO.out.lt vb e.symm).1; have := HL2.out; omega)); have HKS6 := hid (Nat.le_trans HKS.out ((Keep.refl (fun j => some j = (Value.slice a l.length c').ownBlock) wr).alloc _ |>.grown hgrow6 (fun k hk => .inr hk.symm)).size); clear hown6 hgrow6 hat6 hn6))
        go_roundw
        case rel => exact ⟨k + 1, _, _, by omega, by omega, by go_num, rfl, HO6.out, HB6.out, HKS6.out, HK6.out⟩
        case measure => simp [intOf]; omega
    · obtain rfl : k = 25 := by omega
      go_wp2
      go_ret
      exact ⟨a, c', rfl, owns_mono HO.out HW2.out, HKR.out⟩
end Go.Proofs.Ytcbboaoakgngkaa
