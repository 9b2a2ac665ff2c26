/- What is proved: plain laws of a row that is unpacked. -/
import Derived.Test.YtkgkcnmnfhehfaaPkLaw
namespace Go.Proofs.Ytkgkcnmnfhehfaa
open Go.RowKit Go.Proofs.Heap Go.Proofs.Sch Go.Proofs.Wide

/-- The bytes of an element. -/
def elB (s : ByteArray) (a n : Nat) : ByteArray := s.extract a (a + n)
/-- The first j elements of a field that begins at a. -/
def unEl (s : ByteArray) (kd : Int) (a j : Nat) : List WI := (List.range j).map fun i => getV kd (elB s (a + i * szN kd) (szN kd))
def unStep (s : ByteArray) (st : Nat × List WI) (f : Fld) : Nat × List WI :=
  (upN st.1 (szN f.kind) + szN f.kind * f.count.toNat, st.2 ++ unEl s f.kind (upN st.1 (szN f.kind)) f.count.toNat)
def unRun (s : ByteArray) (fs : List Fld) : Nat × List WI := fs.foldl (unStep s) (0, [])
def unRow (fs : List Fld) (s : ByteArray) : List WI := (unRun s fs).2
def unOk (fs : List Fld) (s : ByteArray) : Bool := fitRun fs (unRow fs s) && decide ((⟨(packL fs (unRow fs s)).toArray⟩ : ByteArray) = s)
/-- The error of bytes. -/
def unE (fs : List Fld) (s : ByteArray) : Nat := if layC fs = 0 then (if s.size = pSize fs then (if unOk fs s = true then 0 else 4) else 4) else layC fs
def unV (fs : List Fld) (s : ByteArray) : List WI := if unE fs s = 0 then unRow fs s else []

theorem unEl_len (s : ByteArray) (kd : Int) (a j : Nat) : (unEl s kd a j).length = j := by simp [unEl]
theorem unEl_next (s : ByteArray) (kd : Int) (a j : Nat) : unEl s kd a (j + 1) = unEl s kd a j ++ [getV kd (elB s (a + j * szN kd) (szN kd))] := by
  simp [unEl, List.range_succ]
theorem unRun_next {s : ByteArray} {fs : List Fld} {k : Nat} {f : Fld} (h : fs[k]? = some f) : unRun s (fs.take (k + 1)) = unStep s (unRun s (fs.take k)) f := by
  unfold unRun; rw [take_next h, List.foldl_append]; rfl
theorem un_inv (s : ByteArray) (fs : List Fld) : ∀ k, k ≤ fs.length → (unRun s (fs.take k)).1 = (pRun (fs.take k)).1 ∧ (unRun s (fs.take k)).2.length = sumN (fs.take k)
  | 0, _ => by
    rw [List.take_zero]
    exact ⟨rfl, rfl⟩
  | k + 1, hk => by
    obtain ⟨h1, h2⟩ := un_inv s fs k (by omega)
    obtain ⟨f, hf⟩ : ∃ f, fs[k]? = some f := ⟨fs[k], by simp [show k < fs.length by omega]⟩
    rw [unRun_next hf, pRun_next hf, sumN_next hf]
    unfold unStep pStep
    refine ⟨?_, ?_⟩
    · show upN (unRun s (fs.take k)).1 _ + _ = upN (pRun (fs.take k)).1 _ + _
      rw [h1]
    · show ((unRun s (fs.take k)).2 ++ _).length = _
      rw [List.length_append, unEl_len, h2]
theorem fitRun_app (f : Fld) (us : List WI) : ∀ (fs : List Fld) (vs : List WI), vs.length = sumN fs → fitRun (fs ++ [f]) (vs ++ us) = (fitRun fs vs && (us.take f.count.toNat).all (fitsB f.kind))
  | [], vs, h => by
    obtain rfl : vs = [] := List.eq_nil_of_length_eq_zero h
    simp [fitRun]
  | g :: r, vs, h => by
    have h' : vs.length = g.count.toNat + sumN r := h
    rw [List.cons_append, fitRun, fitRun, List.take_append_of_le_length (by omega), List.drop_append_of_le_length (by omega), fitRun_app f us r _ (by rw [List.length_drop]; omega), Bool.and_assoc]
/-- Whether all so far fit. -/
def unFl (s : ByteArray) (fs : List Fld) (k : Nat) : Bool := fitRun (fs.take k) (unRun s (fs.take k)).2
theorem unFl_next {s : ByteArray} {fs : List Fld} {k : Nat} {f : Fld} (h : fs[k]? = some f) : unFl s fs (k + 1) = (unFl s fs k && (unEl s f.kind (upN (pRun (fs.take k)).1 (szN f.kind)) f.count.toNat).all (fitsB f.kind)) := by
  have hk : k < fs.length := (List.getElem?_eq_some_iff.1 h).1
  have hi := un_inv s fs k (by omega)
  unfold unFl
  rw [unRun_next h, take_next h]
  show fitRun (fs.take k ++ [f]) ((unRun s (fs.take k)).2 ++ unEl s f.kind (upN (unRun s (fs.take k)).1 (szN f.kind)) f.count.toNat) = _
  have e : (unEl s f.kind (upN (pRun (fs.take k)).1 (szN f.kind)) f.count.toNat).take f.count.toNat = unEl s f.kind (upN (pRun (fs.take k)).1 (szN f.kind)) f.count.toNat := List.take_of_length_le (by rw [unEl_len]; exact Nat.le_refl _)
  rw [fitRun_app _ _ _ _ hi.2, hi.1, e]
theorem unFl_no {s : ByteArray} {fs : List Fld} {k : Nat} (h : unFl s fs k = false) : ∀ d, k + d ≤ fs.length → unFl s fs (k + d) = false
  | 0, _ => h
  | d + 1, hd => by
    have ih := unFl_no h d (by omega)
    obtain ⟨f, hf⟩ : ∃ f, fs[k + d]? = some f := ⟨fs[k + d], by simp [show k + d < fs.length by omega]⟩
    rw [← Nat.add_assoc, unFl_next hf, ih]; rfl
theorem unFl_all (s : ByteArray) (fs : List Fld) : unFl s fs fs.length = fitRun fs (unRow fs s) := by
  unfold unFl unRow; rw [List.take_length]
theorem un_bad {s : ByteArray} {fs : List Fld} {k j : Nat} {f : Fld} (h : fs[k]? = some f) (hj : j < f.count.toNat) (hb : fitsB f.kind (getV f.kind (elB s (upN (pRun (fs.take k)).1 (szN f.kind) + j * szN f.kind) (szN f.kind))) = false) : unOk fs s = false := by
  have hk : k < fs.length := (List.getElem?_eq_some_iff.1 h).1
  have h1 : unFl s fs (k + 1) = false := by
    rw [unFl_next h]
    have : (unEl s f.kind (upN (pRun (fs.take k)).1 (szN f.kind)) f.count.toNat).all (fitsB f.kind) = false := by
      rw [List.all_eq_false]
      refine ⟨_, ?_, by rw [hb]; simp⟩
      unfold unEl
      exact List.mem_map.2 ⟨j, List.mem_range.2 hj, rfl⟩
    rw [this, Bool.and_false]
  have h2 := unFl_no h1 (fs.length - (k + 1)) (by omega)
  rw [show k + 1 + (fs.length - (k + 1)) = fs.length by omega, unFl_all] at h2
  unfold unOk
  rw [h2]; rfl
theorem firstN_lt (s : ByteArray) (n : Nat) : firstN s n < 256 ^ n := by
  have h1 := leN_lt (s.data.toList.take n)
  have h2 : (s.data.toList.take n).length ≤ n := by rw [List.length_take]; omega
  exact Nat.lt_of_lt_of_le h1 (pow_le h2)
theorem getV_fit (k : Int) (s : ByteArray) : (getV k s).fit := by
  have h1 := firstN_lt s (szN k)
  have h2 : 256 ^ szN k ≤ 18446744073709551616 := pow_le (sz_le k)
  unfold getV
  split
  · rename_i h
    exact ⟨(by decide : (0 : Nat) < 18446744073709551616), (by have := h.2; omega : 256 ^ szN k - firstN s (szN k) < 18446744073709551616)⟩
  · exact ⟨(by decide : (0 : Nat) < 18446744073709551616), (by omega : firstN s (szN k) < 18446744073709551616)⟩
theorem pSize_ge {fs : List Fld} (hok : ∀ f ∈ fs, okF f) {k j : Nat} {f : Fld} (h : fs[k]? = some f) (hj : j < f.count.toNat) : upN (pRun (fs.take k)).1 (szN f.kind) + j * szN f.kind + szN f.kind ≤ pSize fs := by
  have hk : k < fs.length := (List.getElem?_eq_some_iff.1 h).1
  have mono : ∀ d, k + 1 + d ≤ fs.length → (pRun (fs.take (k + 1))).1 ≤ (pRun (fs.take (k + 1 + d))).1 := by
    intro d
    induction d with
    | zero => intro _; exact Nat.le_refl _
    | succ d ih =>
      intro hd
      obtain ⟨g, hg⟩ : ∃ g, fs[k + 1 + d]? = some g := ⟨fs[k + 1 + d], by simp [show k + 1 + d < fs.length by omega]⟩
      have h1 := ih (by omega)
      have h2 := le_upN (pRun (fs.take (k + 1 + d))).1 (szN g.kind) (hok g (List.mem_of_getElem? hg)).1
      rw [← Nat.add_assoc, pRun_next hg]
      show _ ≤ upN (pRun (fs.take (k + 1 + d))).1 (szN g.kind) + szN g.kind * g.count.toNat
      omega
  have h1 := mono (fs.length - (k + 1)) (by omega)
  rw [show k + 1 + (fs.length - (k + 1)) = fs.length by omega, List.take_length, pRun_next h] at h1
  have h3 := (pRun_le hok fs.length (Nat.le_refl _)).2.1
  rw [List.take_length] at h3
  have h4 := le_upN (pRun fs).1 (pRun fs).2.1 h3
  have h5 : upN (pRun (fs.take k)).1 (szN f.kind) + szN f.kind * f.count.toNat ≤ pSize fs := Nat.le_trans h1 h4
  have h6 : (j + 1) * szN f.kind ≤ f.count.toNat * szN f.kind := Nat.mul_le_mul_right _ hj
  rw [Nat.add_mul, Nat.one_mul] at h6
  rw [Nat.mul_comm (szN f.kind)] at h5
  omega
theorem unE_ok {fs : List Fld} {s : ByteArray} (h0 : layC fs = 0) (hs : s.size = pSize fs) : unE fs s = if unOk fs s = true then 0 else 4 := by
  unfold unE
  rw [if_pos h0, if_pos hs]
end Go.Proofs.Ytkgkcnmnfhehfaa
