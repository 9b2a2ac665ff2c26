/- What is proved: what Order and Names of a row of systems answer. -/
import Derived.Test.YtcbboaoakgngkaaMSdStLaw
namespace Go.Proofs.Ytcbboaoakgngkaa
open Go.RowKit Go.Proofs.Heap Go.Proofs.Sch

theorem firstE_zero : ∀ {l : List Nat}, firstE l = 0 → ∀ e ∈ l, e = 0
  | [], _, e, he => by simp at he
  | a :: r, h, e, he => by
    rw [firstE] at h
    by_cases ha : a = 0
    · rw [if_pos ha] at h
      rcases List.mem_cons.1 he with rfl | he
      · exact ha
      · exact firstE_zero h e he
    · rw [if_neg ha] at h; exact absurd h ha
theorem rangeE_zero {f : Nat → Nat} {n : Nat} (h : firstE ((List.range n).map f) = 0) {i : Nat} (hi : i < n) : f i = 0 := firstE_zero h _ (List.mem_map.2 ⟨i, List.mem_range.2 hi, rfl⟩)
theorem idx_le {α : Type} {q : α → Bool} {l : List α} {i : Nat} {x : α} (hx : l[i]? = some x) (hq : q x = true) : idxI q l ≤ (i : Int) := by
  unfold idxI
  cases h : l.findIdx? q with
  | none =>
    rw [List.findIdx?_eq_none_iff] at h
    rw [h x (List.mem_of_getElem? hx)] at hq; cases hq
  | some j =>
    rw [List.findIdx?_eq_some_iff_getElem] at h
    obtain ⟨hj, h1, h2⟩ := h
    apply Classical.byContradiction
    intro hn
    have hn : ¬ (j : Int) ≤ (i : Int) := hn
    have := h2 i (by omega)
    have e : l[i]'(by omega) = x := by
      have := List.getElem?_eq_some_iff.1 hx
      exact this.2
    rw [e] at this
    exact this hq
theorem check_at {l : List VSys} (h : checkS l = 0) : l.length ≤ 16 ∧ ∀ (i : Nat) (s : VSys), l[i]? = some s → sysC s = 0 ∧ (i : Int) ≤ fnS l s.name := by
  unfold checkS at h
  by_cases hb : 16 < l.length
  · rw [if_pos hb] at h; omega
  · rw [if_neg hb] at h
    refine ⟨by omega, fun i s hs => ?_⟩
    have h1 := rangeE_zero h (List.getElem?_eq_some_iff.1 hs).1
    unfold chkAt at h1
    rw [hs] at h1
    dsimp only at h1
    by_cases h2 : sysC s = 0
    · rw [if_neg (by rw [h2]; simp)] at h1
      refine ⟨h2, ?_⟩
      by_cases h3 : fnS l s.name < (i : Int)
      · rw [if_pos h3] at h1; omega
      · omega
    · rw [if_pos h2] at h1; exact absurd h1 h2
theorem sys_ok {s : VSys} (h : sysC s = 0) : 0 ≤ s.stage ∧ s.stage ≤ 9 ∧ s.after.length ≤ 4 ∧ s.after.Nodup ∧ s.name ∉ s.after := by
  unfold sysC at h
  by_cases h1 : nameB s.name = false
  · rw [if_pos h1] at h; omega
  rw [if_neg h1] at h
  by_cases h2 : s.stage < 0 ∨ 9 < s.stage
  · rw [if_pos h2] at h; omega
  rw [if_neg h2] at h
  by_cases h3 : afterC s.name s.after = 0
  · refine ⟨by omega, by omega, ?_⟩
    unfold afterC at h3
    by_cases h4 : 4 < s.after.length
    · rw [if_pos h4] at h3; omega
    rw [if_neg h4] at h3
    by_cases h5 : (List.range s.after.length).all (afterAt s.name s.after) = true
    · rw [List.all_eq_true] at h5
      have key : ∀ k t, s.after[k]? = some t → t ≠ s.name ∧ t ∉ s.after.take k := by
        intro k t hk
        have := h5 k (List.mem_range.2 (List.getElem?_eq_some_iff.1 hk).1)
        unfold afterAt at this
        rw [hk] at this
        dsimp only at this
        rw [Bool.and_eq_true, Bool.and_eq_true, Bool.not_eq_true', Bool.not_eq_true'] at this
        refine ⟨of_decide_eq_false this.2.1, fun hm => ?_⟩
        rw [(mem_any t _).2 hm] at this
        cases this.2.2
      refine ⟨by omega, ?_, fun hm => ?_⟩
      · rw [List.Nodup, List.pairwise_iff_getElem]
        intro i j hi hj hij e
        refine (key j s.after[j] (List.getElem?_eq_getElem hj)).2 ?_
        rw [← e, List.mem_take_iff_getElem]
        exact ⟨i, by omega, rfl⟩
      · obtain ⟨k, hk⟩ := List.getElem?_of_mem hm
        exact (key k s.name hk).1 rfl
    · rw [if_neg h5] at h3; omega
  · rw [if_pos h3] at h; exact absurd h h3
theorem fn_cases (l : List VSys) (a : ByteArray) : fnS l a = -1 ∨ ∃ j : Nat, fnS l a = (j : Int) ∧ j < l.length ∧ nmS l j = a := by
  rcases idx_cases (fun x : VSys => decide (x.name = a)) l with h | ⟨j, u, h, hu, hq, hj⟩
  · exact .inl h
  · exact .inr ⟨j, h, hj, by rw [nmS_at hu]; exact of_decide_eq_true hq⟩
theorem ok_of {l : List VSys} (h : checkS l = 0) (k : linksS l = 0) : OkS l := by
  obtain ⟨h16, hch⟩ := check_at h
  have get : ∀ i, i < l.length → ∃ s, l[i]? = some s := fun i hi => ⟨l[i], by simp [hi]⟩
  refine ⟨?_, ?_, ?_, ?_, ?_⟩
  · intro i j hi hj e
    obtain ⟨s, hs⟩ := get i hi
    obtain ⟨t, ht⟩ := get j hj
    rw [nmS_at hs, nmS_at ht] at e
    have h1 := idx_le (q := fun x : VSys => decide (x.name = s.name)) ht (decide_eq_true e.symm)
    have h2 := idx_le (q := fun x : VSys => decide (x.name = t.name)) hs (decide_eq_true e)
    have h3 := (hch i s hs).2
    have h4 := (hch j t ht).2
    unfold fnS at h3 h4
    omega
  · intro i hi a ha
    obtain ⟨s, hs⟩ := get i hi
    have h1 : lnkE l i = 0 := rangeE_zero k hi
    have h2 := firstE_zero h1 (lnkAt l i a) (List.mem_map.2 ⟨a, ha, rfl⟩)
    unfold lnkAt at h2
    rcases fn_cases l a with h3 | ⟨j, h3, hj, hn⟩
    · rw [h3] at h2
      rw [if_pos (by omega)] at h2; omega
    · refine ⟨j, h3, hj, hn, ?_⟩
      have h4 : fdS l a = j := by unfold fdS; rw [h3, Int.toNat_natCast]
      rw [h3, h4, if_neg (by omega)] at h2
      by_cases h5 : stS l i < stS l j
      · rw [if_pos h5] at h2; omega
      · omega
  · intro i hi
    obtain ⟨s, hs⟩ := get i hi
    have := sys_ok (hch i s hs).1
    rw [stS_at hs]; exact ⟨this.1, this.2.1⟩
  · intro i hi
    obtain ⟨s, hs⟩ := get i hi
    rw [afS_at hs]; exact (sys_ok (hch i s hs).1).2.2.2.1
  · intro i hi
    obtain ⟨s, hs⟩ := get i hi
    rw [afS_at hs, nmS_at hs]; exact (sys_ok (hch i s hs).1).2.2.2.2
/-- The order's error, and the order. -/
def ordE (l : List VSys) : Nat := if checkS l ≠ 0 then checkS l else if linksS l ≠ 0 then linksS l else if (accP l 10).length < l.length then 7 else 0
def ordL (l : List VSys) : List Nat := if checkS l ≠ 0 then [] else if linksS l ≠ 0 then [] else if (accP l 10).length < l.length then [] else accP l 10
theorem acc_len {l : List VSys} (ok : OkS l) (k : Nat) : (accP l k).length ≤ l.length := by
  obtain ⟨h1, h2, _⟩ := acc_inv ok k
  have := sub_len h1 (B := List.range l.length) (fun x hx => List.mem_range.2 (h2 x hx).1)
  rwa [List.length_range] at this
theorem ordL_in {l : List VSys} : ∀ i ∈ ordL l, i < l.length := by
  intro i hi
  unfold ordL at hi
  by_cases h1 : checkS l = 0
  · rw [if_neg (by rw [h1]; simp)] at hi
    by_cases h2 : linksS l = 0
    · rw [if_neg (by rw [h2]; simp)] at hi
      split at hi
      · simp at hi
      · exact ((acc_inv (ok_of h1 h2) 10).2.1 i hi).1
    · rw [if_pos h2] at hi; simp at hi
  · rw [if_pos h1] at hi; simp at hi
theorem ordL_len (l : List VSys) : (ordL l).length ≤ 16 := by
  unfold ordL
  by_cases h1 : checkS l = 0
  · rw [if_neg (by rw [h1]; simp)]
    by_cases h2 : linksS l = 0
    · rw [if_neg (by rw [h2]; simp)]
      split
      · simp
      · exact Nat.le_trans (acc_len (ok_of h1 h2) 10) (check_at h1).1
    · rw [if_pos h2]; simp
  · rw [if_pos h1]; simp

set_option maxRecDepth 20000 in
set_option maxHeartbeats 8000000 in
theorem sd_order (l : List VSys) (q : Option Addr) (qc : Nat) (w : World) (hs : SP w w.heap.size q l) :
    Calls Try.prog 24 #[.slice q l.length qc] w fun r w' => ∃ a c, r = .returned (.tuple #[.slice a (ordL l).length c, iV (ordE l)]) ∧ w'.ownsRow w.heap.size 3 1 (.slice a (ordL l).length c) (ordL l).length ((ordL l).map iV) ∧ Keep (fun _ => False) w w' := by
  have HSP : Hid (∀ wy, Keep (fun _ => False) w wy → SP wy wy.heap.size q l) := hid (fun wy hk => SP.mono (SP.low hs (Low.keep0 hk)) hk.size)
  have HE : Hid (ordE l = if checkS l ≠ 0 then checkS l else if linksS l ≠ 0 then linksS l else if (accP l 10).length < l.length then 7 else 0) := hid rfl
  have HL : Hid (ordL l = if checkS l ≠ 0 then [] else if linksS l ≠ 0 then [] else if (accP l 10).length < l.length then [] else accP l 10) := hid rfl
  have HCK := hid (check_at (l := l))
  have HOK := hid (ok_of (l := l))
  generalize ordE l = E at *
  generalize ordL l = L at *
  clear hs
  go_enter Try.func24, Try.ntmps24
  go_wp2_with fail
  refine (sd_check l q qc _ (HSP.out _ (Keep.refl _ _))).mono ?_
  rintro r w1 ⟨rfl, hk1⟩
  have HK1 := hid hk1
  clear hk1
  generalize checkS l = z1 at *
  by_cases hz1 : z1 = 0
  rotate_left
  · have g1 : ((z1 : Int) != 0) = true := by rw [bne, beq_eq_false_iff_ne.2 (show (z1 : Int) ≠ 0 by omega)]; rfl
    have g2 : (z1 != 0) = true := by rw [bne, beq_eq_false_iff_ne.2 hz1]; rfl
    have G1 : Hid (E = z1) := hid (by rw [HE.out, if_pos hz1])
    have G2 : Hid (L = []) := hid (by rw [HL.out, if_pos hz1])
    go_wp2
    (try simp only [Exit.inBlock, Exit.then])
    refine bodyPost_ret (results_2 rfl _) rfl ?_
    rw [G1.out, G2.out]
    exact ⟨none, 0, rfl, World.ownsRow_nil _ _ _ _, HK1.out⟩
  subst hz1
  obtain ⟨h16, hch⟩ := HCK.out rfl
  have H16 := hid h16
  have HAF : Hid (∀ s ∈ l, s.after.length ≤ 1000) := hid (fun s hs => by
    obtain ⟨i, hi⟩ := List.getElem?_of_mem hs
    have := (sys_ok (hch i s hi).1).2.2.1
    omega)
  have HOK2 := hid (HOK.out rfl)
  have HE1 : Hid (E = if linksS l ≠ 0 then linksS l else if (accP l 10).length < l.length then 7 else 0) := hid (by rw [HE.out, if_neg (by simp)])
  have HL1 : Hid (L = if linksS l ≠ 0 then [] else if (accP l 10).length < l.length then [] else accP l 10) := hid (by rw [HL.out, if_neg (by simp)])
  clear hch HE HL HCK HOK
  go_wp2_with fail
  refine (sd_links l q qc _ (by omega) HAF.out (HSP.out _ HK1.out)).mono ?_
  rintro r w2 ⟨rfl, hk2⟩
  have HK2 := hid (HK1.out.trans hk2)
  clear hk2
  generalize linksS l = z2 at *
  by_cases hz2 : z2 = 0
  rotate_left
  · have g1 : ((z2 : Int) != 0) = true := by rw [bne, beq_eq_false_iff_ne.2 (show (z2 : Int) ≠ 0 by omega)]; rfl
    have g2 : (z2 != 0) = true := by rw [bne, beq_eq_false_iff_ne.2 hz2]; rfl
    have G1 : Hid (E = z2) := hid (by rw [HE1.out, if_pos hz2])
    have G2 : Hid (L = []) := hid (by rw [HL1.out, if_pos hz2])
    go_wp2
    (try simp only [Exit.inBlock, Exit.then])
    refine bodyPost_ret (results_2 rfl _) rfl ?_
    rw [G1.out, G2.out]
    exact ⟨none, 0, rfl, World.ownsRow_nil _ _ _ _, HK2.out⟩
  subst hz2
  have HK := hid (HOK2.out rfl)
  have HE2 : Hid (E = if (accP l 10).length < l.length then 7 else 0) := hid (by rw [HE1.out, if_neg (by simp)])
  have HL2 : Hid (L = if (accP l 10).length < l.length then [] else accP l 10) := hid (by rw [HL1.out, if_neg (by simp)])
  have HAL := hid (fun k => acc_len HK.out k)
  obtain ⟨i0, hi0, hz0, hzz1, hzz2⟩ := info_parts' info_intS
  have HI := hid (And.intro hi0 (And.intro hz0 (And.intro hzz1 hzz2)))
  clear hi0 hz0 hzz1 hzz2 HE1 HL1 HOK2
  go_wp2_with fail
  go_loopw [6, 7, 18] (fun o _ i wr => ∃ (m : Nat) (a : Option Addr) (c : Nat), m ≤ 10 ∧ i = iV m ∧ o = .slice a (accP l m).length c ∧ wr.ownsRow w.heap.size 3 1 (.slice a (accP l m).length c) (accP l m).length ((accP l m).map iV) ∧ Keep (fun _ => False) w wr) (fun _ _ i _ => 11 - (intOf i).toNat)
  case atStart => exact ⟨0, none, 0, by omega, rfl, rfl, World.ownsRow_nil _ _ _ _, HK2.out⟩
  case round =>
    obtain ⟨m, a, c, hm, rfl, rfl, hown, hkr⟩ := hrel
    have HO := hid hown; have HKR := hid hkr
    clear hown hkr
    by_cases hlt : m < 10
    · have hltI : (m : Int) < 10 := by omega
      have HST := hid (sd_stage l (m : Int) q qc wr HK.out (by omega) HAF.out (HSP.out _ HKR.out))
      have HNX : Hid (accP l (m + 1) = accP l m ++ runK l (m : Int) l.length []) := hid rfl
      have HLN : Hid ((accP l (m + 1)).length = (accP l m).length + (runK l (m : Int) l.length []).length) := hid (by rw [HNX.out, List.length_append])
      have HMN : Hid ((accP l (m + 1)).map iV = (accP l m).map iV ++ (runK l (m : Int) l.length []).map iV) := hid (by rw [HNX.out, List.map_append])
      have HB := hid (HAL.out (m + 1))
      clear HNX
      obtain ⟨N, hN⟩ : ∃ N, accP l (m + 1) = N := ⟨_, rfl⟩
      have HN := hid hN
      rw [hN] at HLN HMN HB
      clear hN
      generalize runK l (m : Int) l.length [] = S at *
      generalize accP l m = M at *
      go_wp2_with fail
      refine HST.out.mono ?_
      rintro r w3 ⟨a3, c3, rfl, hown3, hk3⟩
      have HO3 := hid hown3
      have HOA := hid (owns_keep (w' := w3) HO.out (fun j hj => hk3.block j (HO.out.lt j hj).2 id))
      have HK3 := hid (HKR.out.trans hk3)
      have HONE : Hid (∀ u ∈ S.map iV, u.oneCell' = true) := hid (fun u hu => by
        obtain ⟨i, _, rfl⟩ := List.mem_map.1 hu; rfl)
      clear hown3 hk3 HO HST
      go_wp2_with (at_builtin; go_loud (refine wpList_append_rd rfl _ _ _ rfl w.heap.size _ i0 _ 1 8 Try.underlying24 HI.out.1 HI.out.2.1 HI.out.2.2.1 HI.out.2.2.2 rfl (by decide) _ M.length _ (by rfl) HOA.out _ S.length _ (by rfl) (rd_own HO3.out HONE.out) (by have := HLN.out; have := HB.out; unfold maxLen; omega) (by have := HLN.out; have := HB.out; omega) HK3.out.size ?_; intro v' w6 hown6 hgrow6 hat6 hn6; obtain ⟨vr, ve, rfl⟩ := owns_val hown6; rw [← HMN.out, ← HLN.out] at hown6; rw [← HLN.out]; have HO6 := hid hown6; have HK6 := hid (HK3.out.grown hgrow6 (fun k hk => .inl (HOA.out.lt k hk).1)); clear hown6 hgrow6 hat6 hn6))
      go_roundw
      case rel => exact ⟨m + 1, vr, ve, by omega, by go_num, by rw [HN.out], by rw [HN.out]; exact HO6.out, HK6.out⟩
      case measure => simp [intOf]; omega
    · obtain rfl : m = 10 := by omega
      generalize accP l 10 = M at *
      by_cases hlen : M.length < l.length
      · have g1 : decide ((M.length : Int) < (l.length : Int)) = true := decide_eq_true (by omega)
        have g2 : decide (M.length < l.length) = true := decide_eq_true hlen
        have G1 : Hid (E = 7) := hid (by rw [HE2.out, if_pos hlen])
        have G2 : Hid (L = []) := hid (by rw [HL2.out, if_pos hlen])
        go_wp2
        (try simp only [Exit.inBlock, Exit.then])
        refine bodyPost_ret (results_2 rfl _) rfl ?_
        rw [G1.out, G2.out]
        exact ⟨none, 0, rfl, World.ownsRow_nil _ _ _ _, HKR.out⟩
      · have g1 : decide ((M.length : Int) < (l.length : Int)) = false := decide_eq_false (by omega)
        have g2 : decide (M.length < l.length) = false := decide_eq_false hlen
        have G1 : Hid (E = 0) := hid (by rw [HE2.out, if_neg hlen])
        have G2 : Hid (L = M) := hid (by rw [HL2.out, if_neg hlen])
        go_wp2
        (try simp only [Exit.inBlock, Exit.then])
        refine bodyPost_ret (results_2 rfl _) rfl ?_
        rw [G1.out, G2.out]
        exact ⟨a, c, rfl, HO.out, HKR.out⟩

theorem sp_some {w : World} {B : Nat} {q : Option Addr} {l : List VSys} (h : SP w B q l) {i : Nat} (hi : i < l.length) : ∃ lb lo, q = some ⟨lb, lo, none⟩ := by
  obtain ⟨u, hu⟩ : ∃ u, l[i]? = some u := ⟨l[i], by simp [hi]⟩
  obtain ⟨lb, lo, _, _, _, _, hq, _⟩ := SP.at h hu
  exact ⟨lb, lo, hq⟩
theorem info_strS : (Try.prog.info? 9).map (fun i => (i.zero, i.size, i.bytes)) = some (some (.string ⟨#[]⟩), 1, 16) := by kernel_rfl
abbrev nV (l : List VSys) (i : Nat) : Value := .string (nmS l i)
set_option maxRecDepth 20000 in
set_option maxHeartbeats 8000000 in
theorem sd_names (l : List VSys) (q : Option Addr) (qc : Nat) (w : World) (hs : SP w w.heap.size q l) :
    Calls Try.prog 25 #[.slice q l.length qc] w fun r w' => ∃ a c, r = .returned (.tuple #[.slice a (ordL l).length c, iV (ordE l)]) ∧ w'.ownsRow w.heap.size 9 1 (.slice a (ordL l).length c) (ordL l).length ((ordL l).map (nV l)) ∧ Keep (fun _ => False) w w' := by
  have HSP : Hid (∀ wy, Keep (fun _ => False) w wy → SP wy wy.heap.size q l) := hid (fun wy hk => SP.mono (SP.low hs (Low.keep0 hk)) hk.size)
  have HOC := hid (sd_order l q qc w hs)
  have HIN := hid (ordL_in (l := l))
  have HLE := hid (ordL_len l)
  generalize ordE l = E at *
  generalize ordL l = L at *
  obtain ⟨i0, hi0, hz0, hzz1, hzz2⟩ := info_parts' info_strS
  have HI := hid (And.intro hi0 (And.intro hz0 (And.intro hzz1 hzz2)))
  clear hi0 hz0 hzz1 hzz2 hs
  go_enter Try.func25, Try.ntmps25
  go_wp2_with fail
  refine HOC.out.mono ?_
  rintro r w1 ⟨a1, c1, rfl, hown1, hk1⟩
  have HO1 := hid hown1; have HK1 := hid hk1
  clear hown1 hk1 HOC
  have hle := HLE.out
  go_wp2_with fail
  go_loopw [6, 8, 16] (fun o _ i wr => ∃ (m : Nat) (a : Option Addr) (c : Nat), m ≤ L.length ∧ i = iV m ∧ o = .slice a m c ∧ wr.ownsRow w1.heap.size 9 1 (.slice a m c) m ((L.take m).map (nV l)) ∧ Keep (fun _ => False) w1 wr) (fun _ _ i _ => L.length + 1 - (intOf i).toNat)
  case atStart => exact ⟨0, none, 0, by omega, rfl, rfl, World.ownsRow_nil _ _ _ _, Keep.refl _ _⟩
  case round =>
    obtain ⟨m, a, c, hm, rfl, rfl, hown, hkr⟩ := hrel
    have HO := hid hown; have HKR := hid hkr
    clear hown hkr
    by_cases hlt : m < L.length
    · obtain ⟨i, hi⟩ : ∃ i, L[m]? = some i := ⟨L[m], by simp [hlt]⟩
      have hil := HIN.out i (List.mem_of_getElem? hi)
      obtain ⟨g1, rfl⟩ := owns_some HO1.out (by omega)
      have d0 : wr.cell? ⟨g1, m, none⟩ = some (iV i) := by rw [owns_cell (owns_keep (w' := wr) HO1.out (fun j hj => HKR.out.block j (HO1.out.lt j hj).2 id)) hlt, List.getElem?_map, hi]; rfl
      have hin : (0 : Int) ≤ (m : Int) ∧ (m : Int) < (L.length : Int) := ⟨by omega, by omega⟩
      have hin2 : (0 : Int) ≤ (i : Int) ∧ (i : Int) < (l.length : Int) := ⟨by omega, by omega⟩
      have hsp := HSP.out _ (HK1.out.trans HKR.out)
      obtain ⟨lb, lo, rfl⟩ := sp_some hsp hil
      have e0 := sys_name hsp hil
      have HMN : Hid ((L.take (m + 1)).map (nV l) = (L.take m).map (nV l) ++ [nV l i]) := hid (by rw [take_next hi, List.map_append]; rfl)
      have HKW := hid (HK1.out.trans HKR.out)
      generalize (L.take m).map (nV l) = cl at *
      clear hi hsp
      go_wp2_with (at_builtin; go_loud (refine wpList_append_rd rfl _ _ _ rfl w1.heap.size _ i0 _ 1 16 Try.underlying39 HI.out.1 HI.out.2.1 HI.out.2.2.1 HI.out.2.2.2 rfl (by decide) _ m cl (by rfl) (HO.out.alloc _) _ 1 [nV l i] (by rfl) (rd_block (heap_alloc_new wr _) (by simp) (by simp [Value.oneCell'])) (by unfold maxLen; omega) (by omega) (by have := HKR.out.size; simp; omega) ?_; intro v' w6 hown6 hgrow6 hat6 hn6; obtain ⟨vr, ve, rfl⟩ := owns_val hown6; rw [← HMN.out] at hown6; have HO6 := hid hown6; have HK6 := hid ((HKR.out.alloc _).grown hgrow6 (fun k hk => .inl (HO.out.lt k hk).1)); clear hown6 hgrow6 hat6 hn6))
      go_roundw
      case rel => exact ⟨m + 1, _, _, by omega, by go_num, rfl, HO6.out, HK6.out⟩
      case measure => simp [intOf]; omega
    · obtain rfl : m = L.length := by omega
      have hcl : (L.take L.length).map (nV l) = L.map (nV l) := by rw [List.take_length]
      have HOF := hid (hcl ▸ HO.out)
      clear hcl HO
      have g1 : decide ((L.length : Int) < (L.length : Int)) = false := decide_eq_false (by omega)
      have g2 : decide (L.length < L.length) = false := decide_eq_false (by omega)
      go_wp2
      (try simp only [Exit.inBlock, Exit.then])
      refine bodyPost_ret (results_2 rfl _) rfl ?_
      exact ⟨a, c, rfl, owns_mono HOF.out HK1.out.size, HK1.out.trans HKR.out⟩
end Go.Proofs.Ytcbboaoakgngkaa

namespace Go.Proofs.Ytcbboaoakgngkaa
open Go.RowKit Go.Proofs.Heap Go.Proofs.Sch

/-- A row of numbers. -/
def IntAt (w : World) (b o : Nat) (x : Int) : Prop := w.cell? ⟨b, o, none⟩ = some (.int .i64 x)
abbrev IP := RowP 1 IntAt
theorem IP.low {w w' : World} {B : Nat} {p : Option Addr} {l : List Int} (h : IP w B p l) (hl : Low B w w') : IP w' B p l :=
  RowP.imp h (Nat.le_refl _) fun b o x hb hx => by unfold IntAt at *; rw [hl.cell hb]; exact hx
theorem IP.mono {w : World} {B B' : Nat} {p : Option Addr} {l : List Int} (h : IP w B p l) (hB : B ≤ B') : IP w B' p l := RowP.imp h hB fun _ _ _ _ hx => hx
theorem IP.at {w : World} {B : Nat} {p : Option Addr} {l : List Int} (h : IP w B p l) {i : Nat} {s : Int} (hi : l[i]? = some s) : ∃ b off, p = some ⟨b, off, none⟩ ∧ b < B ∧ w.cell? ⟨b, off + i, none⟩ = some (.int .i64 s) := by
  rcases h with rfl | ⟨b, off, hp, hb, hc⟩
  · simp at hi
  · have := hc i s hi
    rw [Nat.mul_one] at this
    exact ⟨b, off, hp, hb, this⟩
theorem IP.own {w : World} {base n c : Nat} {e : TypeId} {p : Option Addr} {l : List Nat} (hn : l.length = n) (h : w.ownsRow base e 1 (.slice p n c) n (l.map iV)) : IP w w.heap.size p (l.map (fun i : Nat => (i : Int))) := by
  rcases Nat.eq_zero_or_pos n with h0 | h0
  · exact .inl (by rw [List.eq_nil_of_length_eq_zero (by omega : l.length = 0)]; rfl)
  · obtain ⟨q, rfl⟩ := owns_some h h0
    refine .inr ⟨q, 0, rfl, (h.lt q (by simp [Value.ownBlock])).2, fun i x hx => ?_⟩
    have hi : i < n := by have := (List.getElem?_eq_some_iff.1 hx).1; rw [List.length_map] at this; omega
    unfold IntAt
    rw [Nat.zero_add, Nat.mul_one, owns_cell h hi]
    rw [List.getElem?_map] at hx ⊢
    cases hy : l[i]? with
    | none => rw [hy] at hx; cases hx
    | some y => rw [hy] at hx; injection hx with hx; rw [← hx]; rfl

def outB (n : Nat) (i : Int) : Bool := decide (i < 0 ∨ (n : Int) ≤ i)
theorem out_clo (n qc : Nat) (q : Option Addr) (i : Int) (lb : Nat) (w : World) (hc : w.cell? ⟨lb, 0, none⟩ = some (.slice q n qc)) :
    Calls Try.prog 51 #[.int .i64 i, .pointer (some ⟨lb, 0, none⟩)] w fun r w' => r = .returned (.bool (outB n i)) ∧ w = w' := by
  have HO : Hid (outB n i = decide (i < 0 ∨ (n : Int) ≤ i)) := hid rfl
  generalize outB n i = R at *
  by_cases h1 : i < 0
  · have g1 : decide (i < 0) = true := decide_eq_true h1
    have G : Hid (R = true) := hid (by rw [HO.out, decide_eq_true (.inl h1)])
    clear h1
    go_enter Try.func51, Try.ntmps51
    go_wp2
    go_ret
    exact ⟨by rw [G.out]; rfl, rfl⟩
  have g1 : decide (i < 0) = false := decide_eq_false h1
  by_cases h2 : (n : Int) ≤ i
  · have g2 : decide ((n : Int) ≤ i) = true := decide_eq_true h2
    have G : Hid (R = true) := hid (by rw [HO.out, decide_eq_true (.inr h2)])
    clear h1 h2
    go_enter Try.func51, Try.ntmps51
    go_wp2
    go_ret
    exact ⟨by rw [G.out]; rfl, rfl⟩
  · have g2 : decide ((n : Int) ≤ i) = false := decide_eq_false h2
    have G : Hid (R = false) := hid (by rw [HO.out, decide_eq_false (by omega)])
    clear h1 h2
    go_enter Try.func51, Try.ntmps51
    go_wp2
    go_ret
    exact ⟨by rw [G.out]; rfl, rfl⟩

set_option maxRecDepth 20000 in
set_option maxHeartbeats 4000000 in
theorem idx_out (zs : List Int) (n qc : Nat) (q : Option Addr) (lb : Nat) (p : Option Addr) (cap : Nat) (w : World) (hl : zs.length ≤ 65536) (hf : IP w w.heap.size p zs) (hc : w.cell? ⟨lb, 0, none⟩ = some (.slice q n qc)) :
    Calls Try.prog 53 #[.slice p zs.length cap, .func (.func 51) #[] #[.pointer (some ⟨lb, 0, none⟩)]] w fun r w' => r = .returned (.int .i64 (idxI (outB n) zs)) ∧ w = w' := by
  have HF := hid hf
  have HQ := hid (fun i => out_clo n qc q i lb w hc)
  clear hf hc
  generalize outB n = ob at *
  go_enter Try.func53, Try.ntmps53
  go_wp2_with fail
  go_loopw [5, 8] (fun _ i wr => ∃ k : Nat, k ≤ zs.length ∧ i = iV k ∧ w = wr ∧ ∀ c ∈ zs.take k, ob c = false) (fun _ i _ => zs.length + 1 - (intOf i).toNat)
  case atStart => exact ⟨0, by omega, rfl, rfl, by simp⟩
  case round =>
    obtain ⟨k, hk, rfl, rfl, hall⟩ := hrel
    have HA := hid hall
    clear hall
    by_cases hlt : k < zs.length
    · obtain ⟨x, hxk⟩ : ∃ x, zs[k]? = some x := ⟨zs[k], by simp [hlt]⟩
      obtain ⟨b, off, rfl, hb, c0⟩ := IP.at HF.out hxk
      have hin : (0 : Int) ≤ (k : Int) ∧ (k : Int) < (zs.length : Int) := ⟨by omega, by omega⟩
      have HCK := hid hxk
      clear hxk hb
      go_wp2_with fail
      refine (HQ.out x).mono ?_
      rintro r w_ ⟨rfl, rfl⟩
      clear c0
      cases hqc : ob x
      · have HN : Hid (∀ d ∈ zs.take (k + 1), ob d = false) := hid (fun d hd => by
          rw [take_next HCK.out] at hd
          rcases List.mem_append.1 hd with h | h
          · exact HA.out d h
          · rw [List.mem_singleton.1 h]; exact hqc)
        clear hqc
        go_wp2
        go_roundw
        case rel => exact ⟨k + 1, by omega, by go_num, by first | rfl | trivial, HN.out⟩
        case measure => simp [intOf]; omega
      · have G3 := hid (idx_at HCK.out hqc HA.out)
        clear hqc
        go_wp2
        go_ret
        exact ⟨by rw [G3.out]; rfl, rfl⟩
    · obtain rfl : k = zs.length := by omega
      have g1 : decide ((zs.length : Int) < (zs.length : Int)) = false := decide_eq_false (by omega)
      have g2 : decide (zs.length < zs.length) = false := decide_eq_false (by omega)
      have G3 := hid (idx_none (q := ob) (l := zs) (by have := HA.out; rwa [List.take_length] at this))
      go_wp2
      go_ret
      exact ⟨by rw [G3.out]; rfl, rfl⟩
theorem idx_any_eq {α : Type} (q : α → Bool) (l : List α) : decide (0 ≤ idxI q l) = l.any q := by
  rcases idx_cases q l with h | ⟨k, x, h, _⟩
  · rw [h, idx_any_no _ _ h]; rfl
  · rw [idx_any _ _ ⟨k, h⟩, h]; exact decide_eq_true (Int.natCast_nonneg k)
set_option maxRecDepth 20000 in
theorem any_out (zs : List Int) (n qc : Nat) (q : Option Addr) (lb : Nat) (p : Option Addr) (cap : Nat) (w : World) (hl : zs.length ≤ 65536) (hf : IP w w.heap.size p zs) (hc : w.cell? ⟨lb, 0, none⟩ = some (.slice q n qc)) :
    Calls Try.prog 50 #[.slice p zs.length cap, .func (.func 51) #[] #[.pointer (some ⟨lb, 0, none⟩)]] w fun r w' => r = .returned (.bool (zs.any (outB n))) ∧ w = w' := by
  have HI := hid (idx_out zs n qc q lb p cap w hl hf hc)
  have HH := hid (idx_any_eq (outB n) zs)
  clear hl hf hc
  generalize idxI (outB n) zs = z at *
  generalize zs.any (outB n) = R at *
  go_enter Try.func50, Try.ntmps50
  go_wp2_with fail
  refine HI.out.mono ?_
  rintro r w1 ⟨rfl, rfl⟩
  go_wp2
  go_ret
  exact ⟨by rw [← HH.out]; rfl, rfl⟩

set_option maxRecDepth 20000 in
theorem nam_clo (l : List VSys) (q : Option Addr) (qc : Nat) (i : Nat) (lb nb : Nat) (t : ByteArray) (w : World) (hi : i < l.length) (hs : SP w w.heap.size q l) (hc : w.cell? ⟨lb, 0, none⟩ = some (.slice q l.length qc)) (hn : w.cell? ⟨nb, 0, none⟩ = some (.string t)) :
    Calls Try.prog 54 #[iV i, .pointer (some ⟨lb, 0, none⟩), .pointer (some ⟨nb, 0, none⟩)] w fun r w' => r = .returned (.bool (decide (nmS l i = t))) ∧ Keep (fun _ => False) w w' := by
  obtain ⟨b, off, rfl⟩ := sp_some hs hi
  have e0 : w.drew.cell? ⟨b, off + i * 6, none⟩ = some (.string (nmS l i)) := sys_name (SP.low hs (fun _ _ => rfl) : SP w.drew w.heap.size _ l) hi
  have hc' : w.drew.cell? ⟨lb, 0, none⟩ = some (.slice (some ⟨b, off, none⟩) l.length qc) := hc
  have hn' : w.drew.cell? ⟨nb, 0, none⟩ = some (.string t) := hn
  have hin : (0 : Int) ≤ (i : Int) ∧ (i : Int) < (l.length : Int) := ⟨by omega, by omega⟩
  have hsq := seq_dec (nmS l i) t
  have HK : Hid (Keep (fun _ => False) w w.drew) := hid (Keep.refl _ _).drew
  clear hs
  generalize decide (nmS l i = t) = R at *
  generalize nmS l i = s at *
  go_enter Try.func54, Try.ntmps54
  go_wp2_with fail
  refine Plan.wp_region_pl [(false, 0, []), (false, 1, []), (false, 2, []), (false, 3, []), (false, 4, []), (false, 5, []), (false, 6, []), (false, 7, [])] (by as_aux_lemma => kernel_rfl) (by as_aux_lemma => kernel_rfl) ?_
  iterate 8 (refine Plan.pl_st rfl ?_; go_big_quiet_step (fail); refine wpQuiet_nil ?_)
  refine Plan.pl_end ?_
  go_wp2
  go_ret
  exact ⟨by first | rfl | (rw [← hsq]; rfl), HK.out⟩

set_option maxRecDepth 20000 in
set_option maxHeartbeats 4000000 in
theorem idx_nam (l : List VSys) (q : Option Addr) (qc : Nat) (zs : List Nat) (lb nb : Nat) (t : ByteArray) (p : Option Addr) (cap : Nat) (w : World) (hl : zs.length ≤ 65536) (hz : ∀ i ∈ zs, i < l.length) (hf : IP w w.heap.size p (zs.map (fun i : Nat => (i : Int)))) (hs : SP w w.heap.size q l) (hc : w.cell? ⟨lb, 0, none⟩ = some (.slice q l.length qc)) (hn : w.cell? ⟨nb, 0, none⟩ = some (.string t)) :
    Calls Try.prog 53 #[.slice p zs.length cap, .func (.func 54) #[] #[.pointer (some ⟨lb, 0, none⟩), .pointer (some ⟨nb, 0, none⟩)]] w fun r w' => r = .returned (.int .i64 (idxI (fun i => decide (nmS l i = t)) zs)) ∧ Keep (fun _ => False) w w' := by
  have HF : Hid (∀ wy, Keep (fun _ => False) w wy → IP wy wy.heap.size p (zs.map (fun i : Nat => (i : Int)))) := hid (fun wy hk => IP.mono (IP.low hf (Low.keep0 hk)) hk.size)
  have HQ : Hid (∀ i wy, i < l.length → Keep (fun _ => False) w wy → Calls Try.prog 54 #[iV i, .pointer (some ⟨lb, 0, none⟩), .pointer (some ⟨nb, 0, none⟩)] wy fun r w' => r = .returned (.bool ((fun i => decide (nmS l i = t)) i)) ∧ Keep (fun _ => False) wy w') :=
    hid (fun i wy hi hk => nam_clo l q qc i lb nb t wy hi (SP.mono (SP.low hs (Low.keep0 hk)) hk.size) (((Low.keep0 hk).cell (o := 0) (World.block_lt_of_cell? w _ hc)).trans hc) (((Low.keep0 hk).cell (o := 0) (World.block_lt_of_cell? w _ hn)).trans hn))
  have HZ := hid hz
  obtain ⟨ob, hob⟩ : ∃ ob : Nat → Bool, ob = (fun i => decide (nmS l i = t)) := ⟨_, rfl⟩
  rw [← hob] at HQ
  rw [← hob]
  clear hf hc hs hn hob hz
  go_enter Try.func53, Try.ntmps53
  go_wp2_with fail
  go_loopw [5, 8] (fun _ i wr => ∃ k : Nat, k ≤ zs.length ∧ i = iV k ∧ Keep (fun _ => False) w wr ∧ ∀ c ∈ zs.take k, ob c = false) (fun _ i _ => zs.length + 1 - (intOf i).toNat)
  case atStart => exact ⟨0, by omega, rfl, Keep.refl _ _, by simp⟩
  case round =>
    obtain ⟨k, hk, rfl, hkr, hall⟩ := hrel
    have HA := hid hall; have HKR := hid hkr
    clear hall hkr
    by_cases hlt : k < zs.length
    · obtain ⟨x, hxk⟩ : ∃ x, zs[k]? = some x := ⟨zs[k], by simp [hlt]⟩
      obtain ⟨b, off, rfl, hb, c0⟩ := IP.at (HF.out _ HKR.out) (i := k) (s := (x : Int)) (by rw [List.getElem?_map, hxk]; rfl)
      have hin : (0 : Int) ≤ (k : Int) ∧ (k : Int) < (zs.length : Int) := ⟨by omega, by omega⟩
      have HCK := hid hxk
      have hxl := HZ.out x (List.mem_of_getElem? hxk)
      have HC := hid (HQ.out x wr hxl HKR.out)
      clear hxk hb hxl
      go_wp2_with fail
      refine HC.out.mono ?_
      rintro r w2 ⟨rfl, hk2⟩
      have HK2 := hid (HKR.out.trans hk2)
      clear c0 hk2 HC
      cases hqc : ob x
      · have HN : Hid (∀ d ∈ zs.take (k + 1), ob d = false) := hid (fun d hd => by
          rw [take_next HCK.out] at hd
          rcases List.mem_append.1 hd with h | h
          · exact HA.out d h
          · rw [List.mem_singleton.1 h]; exact hqc)
        clear hqc
        go_wp2
        go_roundw
        case rel => exact ⟨k + 1, by omega, by go_num, HK2.out, HN.out⟩
        case measure => simp [intOf]; omega
      · have G3 := hid (idx_at HCK.out hqc HA.out)
        clear hqc
        go_wp2
        go_ret
        exact ⟨by rw [G3.out]; rfl, HK2.out⟩
    · obtain rfl : k = zs.length := by omega
      have g1 : decide ((zs.length : Int) < (zs.length : Int)) = false := decide_eq_false (by omega)
      have g2 : decide (zs.length < zs.length) = false := decide_eq_false (by omega)
      have G3 := hid (idx_none (q := ob) (l := zs) (by have := HA.out; rwa [List.take_length] at this))
      go_wp2
      go_ret
      exact ⟨by rw [G3.out]; rfl, HKR.out⟩
/-- The place of a name in a row of places. -/
def plcS (l : List VSys) (zs : List Nat) (t : ByteArray) : Int := idxI (fun i => decide (nmS l i = t)) zs
set_option maxRecDepth 20000 in
theorem plc_clo (l : List VSys) (q : Option Addr) (qc : Nat) (zs : List Nat) (lb ob : Nat) (t : ByteArray) (p : Option Addr) (cap : Nat) (w : World) (hl : zs.length ≤ 65536) (hz : ∀ i ∈ zs, i < l.length) (hf : IP w w.heap.size p (zs.map (fun i : Nat => (i : Int)))) (hs : SP w w.heap.size q l) (hc : w.cell? ⟨lb, 0, none⟩ = some (.slice q l.length qc)) (ho : w.cell? ⟨ob, 0, none⟩ = some (.slice p zs.length cap)) :
    Calls Try.prog 52 #[.string t, .pointer (some ⟨ob, 0, none⟩), .pointer (some ⟨lb, 0, none⟩)] w fun r w' => r = .returned (.int .i64 (plcS l zs t)) ∧ Keep (fun _ => False) w w' := by
  obtain ⟨w1, hw1, hb1, hs1, hk1⟩ := box1 w #[.string t] 9
  have HK1 := hid hk1
  have hlw := Low.keep0 hk1
  have HI := hid (idx_nam l q qc zs lb w.heap.size t p cap w1 hl hz (IP.mono (IP.low hf hlw) hk1.size) (SP.mono (SP.low hs hlw) hk1.size) ((hlw.cell (o := 0) (World.block_lt_of_cell? w _ hc)).trans hc) (cell_of hb1 (by rfl)))
  have o1 : w1.cell? ⟨ob, 0, none⟩ = some (.slice p zs.length cap) := (hlw.cell (o := 0) (World.block_lt_of_cell? w _ ho)).trans ho
  have HP : Hid (plcS l zs t = idxI (fun i => decide (nmS l i = t)) zs) := hid rfl
  clear hb1 hs1 hk1 hf hs hc ho hlw hl hz
  generalize idxI (fun i => decide (nmS l i = t)) zs = z at *
  go_enter Try.func52, Try.ntmps52
  go_upto_region 1 with fail
  rw [← hw1]
  clear hw1
  generalize w.heap.size = nb at *
  go_wp2_with fail
  refine HI.out.mono ?_
  rintro r w2 ⟨rfl, hk2⟩
  have HK2 := hid (HK1.out.trans hk2)
  clear hk2
  go_wp2
  go_ret
  exact ⟨by rw [HP.out]; rfl, HK2.out⟩

/-- Whether one name stands ahead of another. -/
def aheadB (l : List VSys) (zs : List Int) (a b : ByteArray) : Bool := !zs.any (outB l.length) && decide (0 ≤ plcS l (zs.map Int.toNat) a ∧ 0 ≤ plcS l (zs.map Int.toNat) b ∧ plcS l (zs.map Int.toNat) a < plcS l (zs.map Int.toNat) b)
set_option maxRecDepth 20000 in
set_option maxHeartbeats 4000000 in
theorem sd_ahead (l : List VSys) (q : Option Addr) (qc : Nat) (zs : List Int) (p : Option Addr) (cap : Nat) (a b : ByteArray) (w : World) (hl : zs.length ≤ 65536) (hf : IP w w.heap.size p zs) (hs : SP w w.heap.size q l) :
    Calls Try.prog 27 #[.slice q l.length qc, .slice p zs.length cap, .string a, .string b] w fun r w' => r = .returned (.bool (aheadB l zs a b)) ∧ Keep (fun _ => False) w w' := by
  obtain ⟨w1, hw1, hb1, hb2, hs1, hk1⟩ := box2 w #[.slice q l.length qc] #[.slice p zs.length cap] 37 24
  have HK1 := hid hk1
  have HIP : Hid (∀ wy, Keep (fun _ => False) w1 wy → IP wy wy.heap.size p zs) := hid (fun wy hk => IP.mono (IP.low hf (Low.keep0 (hk1.trans hk))) (hk1.trans hk).size)
  have HSP : Hid (∀ wy, Keep (fun _ => False) w1 wy → SP wy wy.heap.size q l) := hid (fun wy hk => SP.mono (SP.low hs (Low.keep0 (hk1.trans hk))) (hk1.trans hk).size)
  have HC : Hid (∀ wy, Keep (fun _ => False) w1 wy → wy.cell? ⟨w.heap.size, 0, none⟩ = some (.slice q l.length qc) ∧ wy.cell? ⟨w.heap.size + 1, 0, none⟩ = some (.slice p zs.length cap)) := hid (fun wy hk => ⟨cell_of (hk.get hb1 id) (by rfl), cell_of (hk.get hb2 id) (by rfl)⟩)
  have HA : Hid (aheadB l zs a b = (!zs.any (outB l.length) && decide (0 ≤ plcS l (zs.map Int.toNat) a ∧ 0 ≤ plcS l (zs.map Int.toNat) b ∧ plcS l (zs.map Int.toNat) a < plcS l (zs.map Int.toNat) b))) := hid rfl
  generalize aheadB l zs a b = R at *
  clear hb1 hb2 hs1 hk1 hf hs
  go_enter Try.func27, Try.ntmps27
  go_upto_region 1 with fail
  rw [← hw1]
  clear hw1
  generalize w.heap.size + 1 = ob at *
  generalize w.heap.size = lb at *
  obtain ⟨c0, c1⟩ := HC.out _ (Keep.refl _ _)
  have HAN := hid (any_out zs l.length qc q lb p cap w1 hl (HIP.out _ (Keep.refl _ _)) c0)
  go_wp2_with fail
  refine HAN.out.mono ?_
  rintro r w_ ⟨rfl, rfl⟩
  cases hany : zs.any (outB l.length)
  rotate_left
  · have G : Hid (R = false) := hid (by rw [HA.out, hany]; rfl)
    clear hany
    go_wp2
    go_ret
    exact ⟨by rw [G.out]; rfl, HK1.out⟩
  have hzz : ∀ i ∈ zs, 0 ≤ i ∧ i < (l.length : Int) := fun i hi => by
    rw [List.any_eq_false] at hany
    have := hany i hi
    unfold outB at this
    rw [decide_eq_true_iff] at this
    omega
  have hmm : (zs.map Int.toNat).map (fun i : Nat => (i : Int)) = zs := by
    rw [List.map_map]
    conv => rhs; rw [← List.map_id zs]
    exact List.map_congr_left (fun i hi => Int.toNat_of_nonneg (hzz i hi).1)
  have hln : (zs.map Int.toNat).length = zs.length := List.length_map _
  have hlt : ∀ i ∈ zs.map Int.toNat, i < l.length := fun i hi => by
    obtain ⟨j, hj, rfl⟩ := List.mem_map.1 hi
    have := hzz j hj
    omega
  have HA2 : Hid (R = decide (0 ≤ plcS l (zs.map Int.toNat) a ∧ 0 ≤ plcS l (zs.map Int.toNat) b ∧ plcS l (zs.map Int.toNat) a < plcS l (zs.map Int.toNat) b)) := hid (by rw [HA.out, hany]; rfl)
  have HPL : Hid (∀ t wy, Keep (fun _ => False) w1 wy → Calls Try.prog 52 #[.string t, .pointer (some ⟨ob, 0, none⟩), .pointer (some ⟨lb, 0, none⟩)] wy fun r w' => r = .returned (.int .i64 (plcS l (zs.map Int.toNat) t)) ∧ Keep (fun _ => False) wy w') := hid (fun t wy hk => by
    obtain ⟨d0, d1⟩ := HC.out _ hk
    refine plc_clo l q qc (zs.map Int.toNat) lb ob t p cap wy (by rw [hln]; exact hl) hlt (by rw [hmm]; exact HIP.out _ hk) (HSP.out _ hk) d0 (by rw [hln]; exact d1))
  clear hany hzz hmm hln hlt HA HAN
  generalize zs.map Int.toNat = ns at *
  go_wp2_with fail
  refine (HPL.out a w1 (Keep.refl _ _)).mono ?_
  rintro r w2 ⟨rfl, hk2⟩
  have HK2 := hid hk2
  clear hk2 c0 c1
  go_wp2_with fail
  refine (HPL.out b w2 HK2.out).mono ?_
  rintro r w3 ⟨rfl, hk3⟩
  have HK3 := hid (HK1.out.trans (HK2.out.trans hk3))
  clear hk3
  generalize plcS l ns a = x at *
  generalize plcS l ns b = y at *
  by_cases h1 : 0 ≤ x
  rotate_left
  · have g1 : decide (0 ≤ x) = false := decide_eq_false h1
    have G : Hid (R = false) := hid (by rw [HA2.out, decide_eq_false (fun h => h1 h.1)])
    clear h1
    go_wp2
    go_ret
    exact ⟨by rw [G.out]; rfl, HK3.out⟩
  have g1 : decide (0 ≤ x) = true := decide_eq_true h1
  by_cases h2 : 0 ≤ y
  rotate_left
  · have g2 : decide (0 ≤ y) = false := decide_eq_false h2
    have G : Hid (R = false) := hid (by rw [HA2.out, decide_eq_false (fun h => h2 h.2.1)])
    clear h1 h2
    go_wp2
    go_ret
    exact ⟨by rw [G.out]; rfl, HK3.out⟩
  have g2 : decide (0 ≤ y) = true := decide_eq_true h2
  have G : Hid (R = decide (x < y)) := hid (by rw [HA2.out]; exact decide_eq_decide.2 ⟨fun h => h.2.2, fun h => ⟨h1, h2, h⟩⟩)
  clear h1 h2
  go_wp2
  go_ret
  exact ⟨by rw [G.out]; rfl, HK3.out⟩
end Go.Proofs.Ytcbboaoakgngkaa

namespace Go.Proofs.Ytcbboaoakgngkaa
open Go.RowKit Go.Proofs.Heap Go.Proofs.Sch

section
variable {l : List VSys}
theorem runK_in : ∀ (f : Nat) (k : Int) (out : List Nat), (∀ i ∈ out, stS l i = k) → ∀ i ∈ runK l k f out, stS l i = k
  | 0, _, _, h => h
  | f + 1, k, out, h => by
    rw [runK]
    cases hl : leastS l (candsK l k out) with
    | none => exact h
    | some q =>
      refine runK_in f k _ (fun i hi => ?_)
      rcases List.mem_append.1 hi with hi | hi
      · exact h i hi
      · rw [List.mem_singleton.1 hi]
        exact (inC_iff.1 (cands_mem.1 (least_some hl).1).2).2.1
/-- Who waits for somebody of the same stage stands behind them. -/
def DepK (l : List VSys) (k : Int) (out : List Nat) : Prop := ∀ (i x : Nat), out[i]? = some x → ∀ a ∈ afS l x, stS l (fdS l a) = k → fdS l a ∈ out.take i
theorem runK_dep : ∀ (f : Nat) (k : Int) (out : List Nat), DepK l k out → DepK l k (runK l k f out)
  | 0, _, _, h => h
  | f + 1, k, out, h => by
    rw [runK]
    cases hl : leastS l (candsK l k out) with
    | none => exact h
    | some q =>
      refine runK_dep f k _ (fun i x hx a ha hs => ?_)
      by_cases hi : i < out.length
      · rw [List.getElem?_append_left hi] at hx
        rw [List.take_append_of_le_length (by omega)]
        exact h i x hx a ha hs
      · rw [List.getElem?_append_right (by omega)] at hx
        have hil : i = out.length := by
          have := (List.getElem?_eq_some_iff.1 hx).1
          simp at this; omega
        subst hil
        simp at hx
        subst hx
        rw [List.take_left' rfl]
        exact (inC_iff.1 (cands_mem.1 (least_some hl).1).2).2.2 a ha hs
theorem acc_more : ∀ (m k : Nat), k ≤ m → ∀ i ∈ accP l m, stS l i < (k : Int) → i ∈ accP l k
  | 0, k, h, i, hi, _ => by
    obtain rfl : k = 0 := by omega
    exact hi
  | m + 1, k, h, i, hi, hs => by
    by_cases e : k = m + 1
    · subst e; exact hi
    · rw [accP] at hi
      rcases List.mem_append.1 hi with hi | hi
      · exact acc_more m k (by omega) i hi hs
      · have := runK_in (l := l) l.length (m : Int) [] (by simp) i hi
        omega
theorem acc_sorted (ok : OkS l) : ∀ k : Nat, (accP l k).Pairwise (fun a b => stS l a ≤ stS l b)
  | 0 => List.Pairwise.nil
  | k + 1 => by
    rw [accP, List.pairwise_append]
    refine ⟨acc_sorted ok k, ?_, fun a ha b hb => ?_⟩
    · have h := runK_in (l := l) l.length (k : Int) [] (by simp)
      have gen : ∀ L : List Nat, (∀ i ∈ L, stS l i = (k : Int)) → L.Pairwise (fun a b => stS l a ≤ stS l b) := by
        intro L
        induction L with
        | nil => intro _; exact List.Pairwise.nil
        | cons a L ih =>
          intro hL
          rw [List.pairwise_cons]
          exact ⟨fun b hb => by rw [hL a (by simp), hL b (by simp [hb])]; exact Int.le_refl _, ih (fun i hi => hL i (by simp [hi]))⟩
      exact gen _ h
    · have h1 := ((acc_inv ok k).2.1 a ha).2
      have h2 := runK_in (l := l) l.length (k : Int) [] (by simp) b hb
      omega
theorem acc_dep (ok : OkS l) (hall : ∀ i, i < l.length → i ∈ accP l 10) : ∀ k : Nat, k ≤ 10 → ∀ (i x : Nat), (accP l k)[i]? = some x → ∀ a ∈ afS l x, fdS l a ∈ (accP l k).take i
  | 0, _, i, x, hx, _, _ => by simp [accP] at hx
  | k + 1, hk, i, x, hx, a, ha => by
    rw [accP] at hx ⊢
    by_cases hi : i < (accP l k).length
    · rw [List.getElem?_append_left hi] at hx
      rw [List.take_append_of_le_length (by omega)]
      exact acc_dep ok hall k (by omega) i x hx a ha
    · rw [List.getElem?_append_right (by omega)] at hx
      have hxm := List.mem_of_getElem? hx
      have hxs := runK_in (l := l) l.length (k : Int) [] (by simp) x hxm
      have hxl : x < l.length := ((acc_inv ok (k + 1)).2.1 x (by rw [accP]; exact List.mem_append.2 (.inr hxm))).1
      obtain ⟨j, hf, hj, _, hjs⟩ := ok.has x hxl a ha
      have hfd : fdS l a = j := by unfold fdS; rw [hf, Int.toNat_natCast]
      rw [hfd, List.take_append, List.mem_append]
      by_cases hs : stS l j = (k : Int)
      · right
        have := runK_dep (l := l) l.length (k : Int) [] (fun i x h => by simp at h) _ x hx a ha (by rw [hfd]; exact hs)
        rwa [hfd] at this
      · left
        rw [List.take_of_length_le (by omega)]
        exact acc_more 10 k (by omega) j (hall j hj) (by omega)
/-- What an order that is there says. -/
structure OrdS (l : List VSys) (P : List Nat) : Prop where
  ok : OkS l
  nodup : P.Nodup
  inn : ∀ i ∈ P, i < l.length
  all : ∀ i, i < l.length → i ∈ P
  len : P.length = l.length
  sorted : P.Pairwise (fun a b => stS l a ≤ stS l b)
  dep : ∀ (i x : Nat), P[i]? = some x → ∀ a ∈ afS l x, fdS l a ∈ P.take i
theorem ord_zero (h : ordE l = 0) : checkS l = 0 ∧ linksS l = 0 ∧ ordL l = accP l 10 ∧ ¬ (accP l 10).length < l.length := by
  unfold ordE at h
  unfold ordL
  by_cases h1 : checkS l = 0
  · rw [if_neg (by rw [h1]; simp)] at h ⊢
    by_cases h2 : linksS l = 0
    · rw [if_neg (by rw [h2]; simp)] at h ⊢
      by_cases h3 : (accP l 10).length < l.length
      · rw [if_pos h3] at h; omega
      · rw [if_neg h3]; exact ⟨h1, h2, rfl, h3⟩
    · rw [if_pos h2] at h; exact absurd h h2
  · rw [if_pos h1] at h; exact absurd h h1
theorem ord_says (h : ordE l = 0) : OrdS l (ordL l) := by
  obtain ⟨h1, h2, h3, h4⟩ := ord_zero h
  have ok := ok_of h1 h2
  rw [h3]
  obtain ⟨a1, a2, _⟩ := acc_inv ok 10
  have hall : ∀ i, i < l.length → i ∈ accP l 10 := fun i hi => by
    apply Classical.byContradiction
    intro hn
    have := sub_len (A := i :: accP l 10) (B := List.range l.length) (List.nodup_cons.2 ⟨hn, a1⟩) (fun x hx => by
      rw [List.mem_range]
      rcases List.mem_cons.1 hx with rfl | hx
      · exact hi
      · exact (a2 x hx).1)
    rw [List.length_cons, List.length_range] at this
    omega
  exact ⟨ok, a1, fun i hi => (a2 i hi).1, hall, by have := acc_len ok 10; omega, acc_sorted ok 10, acc_dep ok hall 10 (Nat.le_refl _)⟩
theorem ord_none (h : ordE l ≠ 0) : ordL l = [] := by
  unfold ordE at h
  unfold ordL
  by_cases h1 : checkS l = 0
  · rw [if_neg (by rw [h1]; simp)] at h ⊢
    by_cases h2 : linksS l = 0
    · rw [if_neg (by rw [h2]; simp)] at h ⊢
      by_cases h3 : (accP l 10).length < l.length
      · rw [if_pos h3]
      · rw [if_neg h3] at h; exact absurd rfl h
    · rw [if_pos h2]
  · rw [if_pos h1]
/-- Whoever goes after somebody stands behind them. -/
theorem ord_ahead {P : List Nat} (h : OrdS l P) {i x : Nat} (hx : P[i]? = some x) {a : ByteArray} (ha : a ∈ afS l x) : aheadB l (P.map (fun i : Nat => (i : Int))) a (nmS l x) = true := by
  have hpm : (P.map (fun i : Nat => (i : Int))).map Int.toNat = P := by
    rw [List.map_map]
    conv => rhs; rw [← List.map_id P]
    exact List.map_congr_left (fun i _ => by simp)
  have hxl := h.inn x (List.mem_of_getElem? hx)
  obtain ⟨j, hf, hj, hnj, _⟩ := h.ok.has x hxl a ha
  have hfd : fdS l a = j := by unfold fdS; rw [hf, Int.toNat_natCast]
  have hd := h.dep i x hx a ha
  rw [hfd, List.mem_take_iff_getElem] at hd
  obtain ⟨p, hp, hpj⟩ := hd
  have hpl : p < P.length := by omega
  have hP : P[p]? = some j := by rw [← hpj]; exact List.getElem?_eq_getElem hpl
  unfold aheadB
  rw [hpm]
  have hno : (P.map (fun i : Nat => (i : Int))).any (outB l.length) = false := by
    rw [List.any_eq_false]
    intro y hy
    obtain ⟨z, hz, rfl⟩ := List.mem_map.1 hy
    have := h.inn z hz
    unfold outB
    rw [decide_eq_true_iff]
    omega
  rw [hno]
  have h1 : plcS l P a ≤ (p : Int) := idx_le hP (by rw [hnj]; exact decide_eq_true rfl)
  have h2 : 0 ≤ plcS l P a := by
    rcases idx_cases (fun i => decide (nmS l i = a)) P with e | ⟨k, _, e, _⟩
    · exfalso
      have := idx_any_no _ _ e
      rw [List.any_eq_false] at this
      exact this j (List.mem_of_getElem? hP) (by rw [hnj]; exact decide_eq_true rfl)
    · unfold plcS; rw [e]; omega
  have h3 : plcS l P (nmS l x) = (i : Int) := by
    rcases idx_cases (fun i => decide (nmS l i = nmS l x)) P with e | ⟨k, y, e, hy, hq, hk⟩
    · exfalso
      have := idx_any_no _ _ e
      rw [List.any_eq_false] at this
      exact this x (List.mem_of_getElem? hx) (decide_eq_true rfl)
    · have hyx : y = x := h.ok.uniq y x (h.inn y (List.mem_of_getElem? hy)) hxl (of_decide_eq_true hq)
      subst hyx
      have hi := (List.getElem?_eq_some_iff.1 hx).1
      have hki : k = i := (List.getElem?_inj hk h.nodup).1 (by rw [hy, hx])
      unfold plcS
      rw [e, hki]
  rw [h3]
  simp only [Bool.not_false, Bool.true_and]
  exact decide_eq_true ⟨h2, by omega, by omega⟩
end

/-- The same systems, listed otherwise. -/
structure Mix (l l' : List VSys) (f : Nat → Nat) : Prop where
  len : l'.length = l.length
  get : ∀ i, i < l.length → f i < l.length ∧ l'[i]? = l[f i]?
  inj : ∀ i j, i < l.length → j < l.length → f i = f j → i = j
  surj : ∀ j, j < l.length → ∃ i, i < l.length ∧ f i = j
section
variable {l l' : List VSys} {f : Nat → Nat}
theorem Mix.nm (h : Mix l l' f) {i : Nat} (hi : i < l.length) : nmS l' i = nmS l (f i) := by unfold nmS; rw [(h.get i hi).2]
theorem Mix.st (h : Mix l l' f) {i : Nat} (hi : i < l.length) : stS l' i = stS l (f i) := by unfold stS; rw [(h.get i hi).2]
theorem Mix.af (h : Mix l l' f) {i : Nat} (hi : i < l.length) : afS l' i = afS l (f i) := by unfold afS; rw [(h.get i hi).2]
theorem Mix.fd (h : Mix l l' f) (ok : OkS l) {i : Nat} (hi : i < l.length) {a : ByteArray} (ha : a ∈ afS l i) : ∃ j, fnS l' a = ((j : Nat) : Int) ∧ j < l.length ∧ f j = fdS l a := by
  obtain ⟨j, hf, hj, hn, _⟩ := ok.has i hi a ha
  have hfd : fdS l a = j := by unfold fdS; rw [hf, Int.toNat_natCast]
  obtain ⟨j', hj', hfj⟩ := h.surj j hj
  rcases fn_cases l' a with e | ⟨m, e, hm, hmn⟩
  · exfalso
    have := idx_any_no (fun x : VSys => decide (x.name = a)) l' e
    rw [List.any_eq_false] at this
    have hg := (h.get j' hj').2
    rw [hfj] at hg
    obtain ⟨s, hs⟩ : ∃ s, l[j]? = some s := ⟨l[j], by simp [hj]⟩
    rw [hs] at hg
    exact this s (List.mem_of_getElem? hg) (decide_eq_true (by rw [← nmS_at hs]; exact hn))
  · rw [h.len] at hm
    refine ⟨m, e, hm, ?_⟩
    rw [hfd]
    exact ok.uniq _ _ (h.get m hm).1 hj (by rw [← h.nm hm, hmn, hn])
theorem Mix.okS (h : Mix l l' f) (ok : OkS l) : OkS l' := by
  refine ⟨?_, ?_, ?_, ?_, ?_⟩
  · intro i j hi hj e
    rw [h.len] at hi hj
    rw [h.nm hi, h.nm hj] at e
    exact h.inj i j hi hj (ok.uniq _ _ (h.get i hi).1 (h.get j hj).1 e)
  · intro i hi a ha
    rw [h.len] at hi
    rw [h.af hi] at ha
    obtain ⟨j, e, hj, hfj⟩ := h.fd ok (h.get i hi).1 ha
    obtain ⟨m, hf, hm, hn, hs⟩ := ok.has _ (h.get i hi).1 a ha
    have hfd : fdS l a = m := by unfold fdS; rw [hf, Int.toNat_natCast]
    rw [hfd] at hfj
    exact ⟨j, e, by rw [h.len]; exact hj, by rw [h.nm hj, hfj]; exact hn, by rw [h.st hj, h.st hi, hfj]; exact hs⟩
  · intro i hi; rw [h.len] at hi; rw [h.st hi]; exact ok.stage _ (h.get i hi).1
  · intro i hi; rw [h.len] at hi; rw [h.af hi]; exact ok.nodup _ (h.get i hi).1
  · intro i hi; rw [h.len] at hi; rw [h.af hi, h.nm hi]; exact ok.self _ (h.get i hi).1
theorem Mix.inC (h : Mix l l' f) (ok : OkS l) {k : Int} {out : List Nat} (ho : ∀ i ∈ out, i < l.length) {i : Nat} (hi : i < l.length) : inC l' k out i = inC l k (out.map f) (f i) := by
  have hm : ∀ j, j < l.length → (j ∈ out ↔ f j ∈ out.map f) := fun j hj => ⟨fun h1 => List.mem_map.2 ⟨j, h1, rfl⟩, fun h1 => by
    obtain ⟨m, hm, e⟩ := List.mem_map.1 h1
    rw [← h.inj m j (ho m hm) hj e]; exact hm⟩
  apply Bool.eq_iff_iff.2
  rw [inC_iff, inC_iff, h.st hi, h.af hi, hm i hi]
  have key : ∀ a ∈ afS l (f i), ∃ j, fdS l' a = j ∧ j < l.length ∧ f j = fdS l a := fun a ha => by
    obtain ⟨j, e, hj, hfj⟩ := h.fd ok (h.get i hi).1 ha
    exact ⟨j, by unfold fdS; rw [e, Int.toNat_natCast], hj, hfj⟩
  constructor
  · rintro ⟨h1, h2, h3⟩
    refine ⟨h1, h2, fun a ha hs => ?_⟩
    obtain ⟨j, e, hj, hfj⟩ := key a ha
    rw [← hfj] at hs ⊢
    have := h3 a ha (by rw [e, h.st hj]; exact hs)
    rw [e] at this
    exact (hm j hj).1 this
  · rintro ⟨h1, h2, h3⟩
    refine ⟨h1, h2, fun a ha hs => ?_⟩
    obtain ⟨j, e, hj, hfj⟩ := key a ha
    rw [e] at hs ⊢
    rw [h.st hj, hfj] at hs
    have := h3 a ha hs
    rw [← hfj] at this
    exact (hm j hj).2 this
theorem Mix.least (h : Mix l l' f) (ok : OkS l) {k : Int} {out : List Nat} (ho : ∀ i ∈ out, i < l.length) : leastS l (candsK l k (out.map f)) = (leastS l' (candsK l' k out)).map f := by
  cases hl : leastS l' (candsK l' k out) with
  | none =>
    rw [Option.map_none, least_none]
    have h1 := least_none.1 hl
    cases hc : candsK l k (out.map f) with
    | nil => rfl
    | cons j r =>
      exfalso
      have hj : j ∈ candsK l k (out.map f) := by rw [hc]; simp
      obtain ⟨h2, h3⟩ := cands_mem.1 hj
      obtain ⟨i, hi, rfl⟩ := h.surj j h2
      have : i ∈ candsK l' k out := cands_mem.2 ⟨by rw [h.len]; exact hi, by rw [h.inC ok ho hi]; exact h3⟩
      rw [h1] at this; simp at this
  | some i =>
    rw [Option.map_some]
    obtain ⟨h1, h2⟩ := least_some hl
    obtain ⟨h3, h4⟩ := cands_mem.1 h1
    rw [h.len] at h3
    refine least_eq ok (fun j hj => (cands_mem.1 hj).1) (cands_mem.2 ⟨(h.get i h3).1, by rw [← h.inC ok ho h3]; exact h4⟩) (fun j hj => ?_)
    obtain ⟨h5, h6⟩ := cands_mem.1 hj
    obtain ⟨m, hm, rfl⟩ := h.surj j h5
    have := h2 m (cands_mem.2 ⟨by rw [h.len]; exact hm, by rw [h.inC ok ho hm]; exact h6⟩)
    rwa [h.nm hm, h.nm h3] at this
theorem Mix.run (h : Mix l l' f) (ok : OkS l) {k : Int} : ∀ (g : Nat) (out : List Nat), (∀ i ∈ out, i < l.length) → runK l k g (out.map f) = (runK l' k g out).map f ∧ ∀ i ∈ runK l' k g out, i < l.length
  | 0, out, ho => ⟨rfl, ho⟩
  | g + 1, out, ho => by
    rw [runK, runK, h.least ok ho]
    cases hl : leastS l' (candsK l' k out) with
    | none => exact ⟨rfl, ho⟩
    | some i =>
      have hi : i < l.length := by have := (cands_mem.1 (least_some hl).1).1; rwa [h.len] at this
      have ho2 : ∀ j ∈ out ++ [i], j < l.length := fun j hj => by
        rcases List.mem_append.1 hj with hj | hj
        · exact ho j hj
        · rw [List.mem_singleton.1 hj]; exact hi
      have := h.run ok (k := k) g (out ++ [i]) ho2
      rw [List.map_append] at this
      exact this
theorem Mix.acc (h : Mix l l' f) (ok : OkS l) : ∀ k : Nat, accP l k = (accP l' k).map f ∧ ∀ i ∈ accP l' k, i < l.length
  | 0 => ⟨rfl, by simp [accP]⟩
  | k + 1 => by
    obtain ⟨h1, h2⟩ := h.acc ok k
    have h3 := h.run ok (k := (k : Int)) l.length [] (by simp)
    rw [accP, accP, h.len, List.map_append, ← h1]
    refine ⟨by rw [← h3.1]; rfl, fun i hi => ?_⟩
    rcases List.mem_append.1 hi with hi | hi
    · exact h2 i hi
    · exact h3.2 i hi
/-- How systems are listed plays no part. -/
theorem Mix.order (h : Mix l l' f) (h0 : ordE l = 0) : ordE l' = 0 ∧ (ordL l').map (nmS l') = (ordL l).map (nmS l) := by
  obtain ⟨h1, h2, h3, h4⟩ := ord_zero h0
  have ok := ok_of h1 h2
  have ok' := h.okS ok
  obtain ⟨c1, c2⟩ := check_at h1
  have k1 : checkS l' = 0 := by
    unfold checkS
    rw [if_neg (by rw [h.len]; omega)]
    refine rangeE_none (fun i hi => ?_)
    have hi' : i < l.length := by rwa [h.len] at hi
    obtain ⟨s, hs⟩ : ∃ s, l'[i]? = some s := ⟨l'[i], by simp [hi]⟩
    have hsl : l[f i]? = some s := by rw [← (h.get i hi').2]; exact hs
    unfold chkAt
    rw [hs]
    dsimp only
    rw [if_neg (by rw [(c2 _ s hsl).1]; simp), if_neg]
    rcases fn_cases l' s.name with e | ⟨j, e, hj, hn⟩
    · exfalso
      have := idx_any_no (fun x : VSys => decide (x.name = s.name)) l' e
      rw [List.any_eq_false] at this
      exact this s (List.mem_of_getElem? hs) (decide_eq_true rfl)
    · rw [e]
      have : j = i := ok'.uniq j i hj hi (by rw [hn, nmS_at hs])
      omega
  have k2 : linksS l' = 0 := by
    unfold linksS
    refine rangeE_none (fun i hi => ?_)
    unfold lnkE
    apply firstE_none
    intro e he
    obtain ⟨a, ha, rfl⟩ := List.mem_map.1 he
    obtain ⟨j, hf, hj, _, hs⟩ := ok'.has i hi a ha
    have hfd : fdS l' a = j := by unfold fdS; rw [hf, Int.toNat_natCast]
    unfold lnkAt
    rw [hf, hfd, if_neg (by omega), if_neg (by omega)]
  obtain ⟨a1, a2⟩ := h.acc ok 10
  have hlen : (accP l' 10).length = (accP l 10).length := by rw [a1, List.length_map]
  have e0 : ordE l' = 0 := by
    unfold ordE
    rw [k1, k2, if_neg (by simp), if_neg (by simp), if_neg (by rw [hlen, h.len]; exact h4)]
  refine ⟨e0, ?_⟩
  rw [(ord_zero e0).2.2.1, h3, a1, List.map_map]
  exact List.map_congr_left (fun i hi => h.nm (a2 i hi))
end
/-- A row turned by so many. -/
theorem mix_turn (l : List VSys) {k : Nat} (hk : k < l.length) : Mix l (l.drop k ++ l.take k) (fun i => if i + k < l.length then i + k else i + k - l.length) := by
  refine ⟨by rw [List.length_append, List.length_drop, List.length_take]; omega, fun i hi => ?_, fun i j hi hj e => ?_, fun j hj => ?_⟩
  · by_cases h : i + k < l.length
    · rw [if_pos h]
      exact ⟨h, by rw [List.getElem?_append_left (by rw [List.length_drop]; omega), List.getElem?_drop, Nat.add_comm]⟩
    · rw [if_neg h]
      exact ⟨by omega, by rw [List.getElem?_append_right (by rw [List.length_drop]; omega), List.length_drop, List.getElem?_take_of_lt (by omega), show i - (l.length - k) = i + k - l.length by omega]⟩
  · split at e <;> split at e <;> omega
  · by_cases h : k ≤ j
    · exact ⟨j - k, by omega, by rw [if_pos (by omega)]; omega⟩
    · exact ⟨j + l.length - k, by omega, by rw [if_neg (by omega)]; omega⟩
end Go.Proofs.Ytcbboaoakgngkaa
