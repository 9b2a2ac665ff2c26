/- What is proved: plain laws: what was packed is unpacked as it was. -/
import Derived.Test.YtkgkcnmnfhehfaaUnLaw
namespace Go.Proofs.Ytkgkcnmnfhehfaa
open Go.RowKit Go.Proofs.Heap Go.Proofs.Sch Go.Proofs.Wide

/-- A number that fits: its bounds. -/
theorem fits_neg {k : Int} {x : WI} (h : fitsB k x = true) (hn : x.neg = true) : signK k = true ∧ x.hi = 0 ∧ 1 ≤ x.lo ∧ x.lo ≤ greatN k + 1 := by
  unfold fitsB at h
  simp only [Bool.and_eq_true, decide_eq_true_eq] at h
  obtain ⟨_, hf, h1, h2⟩ := h
  have hm : x.mag ≠ 0 := form_zero hf hn
  unfold cmpW at h1 h2
  rw [if_pos ⟨hf, leastW_form k⟩] at h1
  have hv : x.val = -(x.mag : Int) := by unfold WI.val; rw [if_pos hn]
  have hl : (leastW k).val ≤ x.val := by
    unfold cmpI at h1
    by_cases e : (leastW k).val < x.val
    · omega
    · rw [if_neg e] at h1
      by_cases e2 : x.val = (leastW k).val
      · omega
      · rw [if_neg e2] at h1; omega
  have hg := greatN_lt k
  cases hs : signK k
  · exfalso
    have : (leastW k).val = 0 := by unfold leastW; rw [hs]; simp [WI.val, WI.mag]
    omega
  · have : (leastW k).val = -((greatN k + 1 : Nat) : Int) := by
      unfold leastW
      rw [hs]
      simp [WI.val, WI.mag]
    have hsg := greatN_sign hs
    have hmg : x.mag ≤ greatN k + 1 := by omega
    unfold WI.mag at hmg hm
    refine ⟨rfl, ?_, ?_, ?_⟩
    · omega
    · omega
    · omega
theorem fits_pos {k : Int} {x : WI} (h : fitsB k x = true) (hn : x.neg = false) : x.hi = 0 ∧ x.lo ≤ greatN k := by
  unfold fitsB at h
  simp only [Bool.and_eq_true, decide_eq_true_eq] at h
  obtain ⟨_, hf, h1, h2⟩ := h
  unfold cmpW at h2
  rw [if_pos ⟨hf, greatW_form k⟩] at h2
  have hv : x.val = (x.mag : Int) := by unfold WI.val; rw [hn]; rfl
  have hgv : (greatW k).val = (greatN k : Int) := by simp [greatW, WI.val, WI.mag]
  have hg := greatN_lt k
  have hmg : x.mag ≤ greatN k := by
    unfold cmpI at h2
    by_cases e : (greatW k).val < x.val
    · rw [if_pos e] at h2; omega
    · omega
  unfold WI.mag at hmg
  exact ⟨by omega, by omega⟩
theorem kind_cases {k : Int} (h : kindB k = true) : k = 1 ∨ k = 2 ∨ k = 3 ∨ k = 4 ∨ k = 5 ∨ k = 6 ∨ k = 7 ∨ k = 8 ∨ k = 9 ∨ k = 10 := by
  have : 1 ≤ k ∧ k ≤ 10 := of_decide_eq_true h
  omega
theorem word_pos {k : Int} (hk : kindB k = true) {n : Nat} (h : n ≤ greatN k) : n % 256 ^ szN k = n := by
  rcases kind_cases hk with rfl | rfl | rfl | rfl | rfl | rfl | rfl | rfl | rfl | rfl
  all_goals
    refine Nat.mod_eq_of_lt (Nat.lt_of_le_of_lt h ?_)
    decide +kernel
theorem word_neg {k : Int} (hk : kindB k = true) (hs : signK k = true) {n : Nat} (h0 : 1 ≤ n) (h : n ≤ greatN k + 1) : (18446744073709551616 - n) % 18446744073709551616 % 256 ^ szN k = 256 ^ szN k - n ∧ greatN k < 256 ^ szN k - n ∧ n ≤ 256 ^ szN k := by
  rcases kind_cases hk with rfl | rfl | rfl | rfl | rfl | rfl | rfl | rfl | rfl | rfl
  · exact absurd hs (by decide)
  · have h' : n ≤ 128 := h
    show (18446744073709551616 - n) % 18446744073709551616 % 256 = 256 - n ∧ 127 < 256 - n ∧ n ≤ 256
    omega
  · have h' : n ≤ 32768 := h
    show (18446744073709551616 - n) % 18446744073709551616 % 65536 = 65536 - n ∧ 32767 < 65536 - n ∧ n ≤ 65536
    omega
  · have h' : n ≤ 2147483648 := h
    show (18446744073709551616 - n) % 18446744073709551616 % 4294967296 = 4294967296 - n ∧ 2147483647 < 4294967296 - n ∧ n ≤ 4294967296
    omega
  · have h' : n ≤ 9223372036854775808 := h
    show (18446744073709551616 - n) % 18446744073709551616 % 18446744073709551616 = 18446744073709551616 - n ∧ 9223372036854775807 < 18446744073709551616 - n ∧ n ≤ 18446744073709551616
    omega
  all_goals exact absurd hs (by decide)
/-- An element's bytes are read as the number that it was. -/
theorem get_put {k : Int} {x : WI} (h : fitsB k x = true) {s : ByteArray} (hb : s.data.toList.take (szN k) = putL k x) : getV k s = x := by
  have hk : kindB k = true := by
    unfold fitsB at h
    simp only [Bool.and_eq_true] at h
    exact h.1
  have hf : firstN s (szN k) = wordN x % 256 ^ szN k := by
    unfold firstN
    rw [hb, putL, leN_leL, Nat.mod_mod]
  obtain ⟨ng, hi, lo⟩ := x
  unfold getV
  rw [hf]
  cases ng
  · obtain ⟨h1, h2⟩ := fits_pos h rfl
    simp only at h1 h2
    subst h1
    have e : wordN ⟨false, 0, lo⟩ = lo := rfl
    rw [e, word_pos hk h2, if_neg (by omega)]
  · obtain ⟨hs, h1, h2, h3⟩ := fits_neg h rfl
    simp only at h1 h2 h3
    subst h1
    have e : wordN ⟨true, 0, lo⟩ = (18446744073709551616 - lo) % 18446744073709551616 := rfl
    obtain ⟨h4, h5, h6⟩ := word_neg hk hs h2 h3
    rw [e, h4, if_pos ⟨hs, h5⟩, Nat.sub_sub_self h6]
/-- The row behind each field begins the whole row. -/
theorem pk_prefix {fs : List Fld} {vs : List WI} : ∀ d, d ≤ fs.length → ∃ rest, packL fs vs = (pkRun (fs.take (fs.length - d)) vs).1 ++ rest
  | 0, _ => by
    rw [Nat.sub_zero, List.take_length]
    exact ⟨_, rfl⟩
  | d + 1, hd => by
    obtain ⟨rest, h⟩ := pk_prefix (fs := fs) (vs := vs) d (by omega)
    obtain ⟨f, hf⟩ : ∃ f, fs[fs.length - (d + 1)]? = some f := ⟨fs[fs.length - (d + 1)]'(by omega), by simp [show fs.length - (d + 1) < fs.length by omega]⟩
    rw [show fs.length - d = fs.length - (d + 1) + 1 by omega, pkRun_next hf] at h
    unfold pkStep padL at h
    dsimp only at h
    rw [List.append_assoc, List.append_assoc] at h
    exact ⟨_, h⟩
theorem flat_drop {α : Type} (g : α → List UInt8) (c : Nat) (hg : ∀ x, (g x).length = c) : ∀ (l : List α) (j : Nat) (x : α) (r : List UInt8), l[j]? = some x → ((l.flatMap g ++ r).drop (j * c)).take c = g x
  | [], j, x, r, h => by simp at h
  | y :: l, 0, x, r, h => by
    simp at h
    subst h
    rw [Nat.zero_mul, List.drop_zero, List.flatMap_cons, List.append_assoc, List.take_append_of_le_length (by rw [hg]; exact Nat.le_refl _), List.take_of_length_le (by rw [hg]; exact Nat.le_refl _)]
  | y :: l, j + 1, x, r, h => by
    rw [List.flatMap_cons, List.append_assoc, Nat.add_mul, Nat.one_mul, Nat.add_comm, ← List.drop_drop, List.drop_left' (hg y)]
    exact flat_drop g c hg l j x r (by simpa using h)
theorem el_bytes (l : List UInt8) (a n : Nat) : ((elB ⟨l.toArray⟩ a n).data.toList).take n = (l.drop a).take n := by
  unfold elB
  rw [ByteArray.data_extract, Array.toList_extract, List.extract_eq_take_drop]
  rw [List.take_take, show min n (a + n - a) = n by omega]
/-- WHAT WAS PACKED IS UNPACKED AS IT WAS. -/
theorem un_pack {fs : List Fld} {vs : List WI} (hok : ∀ f ∈ fs, okF f) (hlen : vs.length = sumN fs) (hrun : fitRun fs vs = true) : ∀ k, k ≤ fs.length → (unRun ⟨(packL fs vs).toArray⟩ (fs.take k)).2 = vs.take (sumN (fs.take k))
  | 0, _ => by rw [List.take_zero]; rfl
  | k + 1, hk => by
    have ih := un_pack hok hlen hrun k (by omega)
    obtain ⟨f, hf⟩ : ∃ f, fs[k]? = some f := ⟨fs[k], by simp [show k < fs.length by omega]⟩
    obtain ⟨h1, h2, h3⟩ := pk_inv hok hlen k (by omega)
    have ho := hok f (List.mem_of_getElem? hf)
    have hall := fitRun_at hrun hf
    have hsd : sumN (fs.drop k) = f.count.toNat + sumN (fs.drop (k + 1)) := by rw [drop_next hf]; rfl
    obtain ⟨rest, hp⟩ := pk_prefix (fs := fs) (vs := vs) (fs.length - (k + 1)) (by omega)
    rw [show fs.length - (fs.length - (k + 1)) = k + 1 by omega, pkRun_next hf] at hp
    have hi := (un_inv ⟨(packL fs vs).toArray⟩ fs k (by omega)).1
    rw [unRun_next hf, sumN_next hf]
    show (unRun _ (fs.take k)).2 ++ unEl _ f.kind (upN (unRun _ (fs.take k)).1 (szN f.kind)) f.count.toNat = _
    rw [ih, hi, List.take_add, ← h1]
    congr 1
    generalize hch : (pkRun (fs.take k) vs).2 = ch at *
    have hcl : f.count.toNat ≤ ch.length := by omega
    refine List.ext_getElem? fun j => ?_
    by_cases hj : j < f.count.toNat
    · obtain ⟨x, hx⟩ : ∃ x, (ch.take f.count.toNat)[j]? = some x := ⟨ch[j]'(by omega), by rw [List.getElem?_take_of_lt hj]; simp [show j < ch.length by omega]⟩
      rw [hx]
      unfold unEl
      rw [List.getElem?_map, List.getElem?_range hj]
      show some (getV f.kind _) = some x
      congr 1
      have hm : x ∈ ch.take f.count.toNat := List.mem_of_getElem? hx
      refine get_put (hall x hm) ?_
      rw [el_bytes, hp]
      unfold pkStep
      dsimp only
      rw [hch, List.append_assoc, ← h2, ← List.drop_drop, List.drop_left' (padL_len _ _ (le_upN _ _ ho.1))]
      exact flat_drop (putL f.kind) (szN f.kind) (fun x => putL_len _ x) _ j x rest hx
    · rw [List.getElem?_eq_none (by rw [unEl_len]; omega), List.getElem?_eq_none (by rw [List.length_take]; omega)]
theorem fitC_zero {fs : List Fld} {vs : List WI} (h : fitC fs vs = 0) : layC fs = 0 ∧ vs.length = sumN fs ∧ fitRun fs vs = true := by
  unfold fitC at h
  by_cases h1 : layC fs = 0
  · rw [if_pos h1] at h
    by_cases h2 : vs.length = sumN fs
    · rw [if_pos h2] at h
      by_cases h3 : fitRun fs vs = true
      · exact ⟨h1, h2, h3⟩
      · rw [if_neg h3] at h; omega
    · rw [if_neg h2] at h; omega
  · rw [if_neg h1] at h; omega
theorem packS_ok {fs : List Fld} {vs : List WI} (h : fitC fs vs = 0) : packS fs vs = ⟨(packL fs vs).toArray⟩ := by unfold packS; rw [if_pos h]
theorem packL_len {fs : List Fld} {vs : List WI} (h : fitC fs vs = 0) : (packL fs vs).length = pSize fs := by
  obtain ⟨h0, h1, _⟩ := fitC_zero h
  have hok := (layC_zero h0).2
  have h2 := pk_inv hok h1 fs.length (Nat.le_refl _)
  have h3 := pRun_le hok fs.length (Nat.le_refl _)
  rw [List.take_length] at h2 h3
  exact padL_len _ _ (by rw [h2.2.1]; exact le_upN _ _ h3.2.1)
/-- A packed value is unpacked as it was. -/
theorem back_yes {fs : List Fld} {vs : List WI} (h : fitC fs vs = 0) : unE fs (packS fs vs) = 0 ∧ unV fs (packS fs vs) = vs := by
  obtain ⟨h0, h1, h2⟩ := fitC_zero h
  have hrow : unRow fs (packS fs vs) = vs := by
    have := un_pack (layC_zero h0).2 h1 h2 fs.length (Nat.le_refl _)
    rw [List.take_length, ← h1, List.take_length] at this
    rw [packS_ok h]
    exact this
  have hs : (packS fs vs).size = pSize fs := by
    rw [packS_ok h, ← packL_len h]
    exact List.size_toArray ..
  have hk : unOk fs (packS fs vs) = true := by
    unfold unOk
    rw [hrow, h2, packS_ok h, decide_eq_true rfl]; rfl
  have he : unE fs (packS fs vs) = 0 := by rw [unE_ok h0 hs, hk]; rfl
  exact ⟨he, by unfold unV; rw [if_pos he, hrow]⟩
/-- What was unpacked is packed as the same bytes. -/
theorem back_bytes {fs : List Fld} {s : ByteArray} (h : unE fs s = 0) : fitC fs (unV fs s) = 0 ∧ packS fs (unV fs s) = s := by
  have hv : unV fs s = unRow fs s := by unfold unV; rw [if_pos h]
  unfold unE at h
  by_cases h0 : layC fs = 0
  · rw [if_pos h0] at h
    by_cases h1 : s.size = pSize fs
    · rw [if_pos h1] at h
      by_cases h2 : unOk fs s = true
      · unfold unOk at h2
        rw [Bool.and_eq_true] at h2
        obtain ⟨h3, h4⟩ := h2
        have h5 := (un_inv s fs fs.length (Nat.le_refl _)).2
        rw [List.take_length] at h5
        replace h5 : (unRow fs s).length = sumN fs := h5
        have h6 : fitC fs (unRow fs s) = 0 := by unfold fitC; rw [if_pos h0, if_pos h5, if_pos h3]
        rw [hv]
        exact ⟨h6, by rw [packS_ok h6]; exact of_decide_eq_true h4⟩
      · rw [if_neg h2] at h; omega
    · rw [if_neg h1] at h; omega
  · rw [if_neg h0] at h; omega
/-- Unlike values have unlike rows. -/
theorem pack_inj {fs : List Fld} {a b : List WI} (ha : fitC fs a = 0) (hb : fitC fs b = 0) (h : packS fs a = packS fs b) : a = b := by
  rw [← (back_yes ha).2, ← (back_yes hb).2, h]
end Go.Proofs.Ytkgkcnmnfhehfaa
