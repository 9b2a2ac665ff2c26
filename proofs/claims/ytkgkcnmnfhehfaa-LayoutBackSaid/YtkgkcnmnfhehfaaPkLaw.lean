/- What is proved: plain laws of a packed row: how long it is behind each field, what is left of the numbers. -/
import Derived.Test.YtkgkcnmnfhehfaaLay2
import Derived.Test.YtkgkcnmnfhehfaaFget
import Derived.Test.YtkgkcnmnfhehfaaPad
namespace Go.Proofs.Ytkgkcnmnfhehfaa
open Go.RowKit Go.Proofs.Heap Go.Proofs.Sch Go.Proofs.Wide

def pkStep (st : List UInt8 × List WI) (f : Fld) : List UInt8 × List WI :=
  (padL st.1 (upN st.1.length (szN f.kind)) ++ (st.2.take f.count.toNat).flatMap (putL f.kind), st.2.drop f.count.toNat)
def pkRun (fs : List Fld) (vs : List WI) : List UInt8 × List WI := fs.foldl pkStep ([], vs)
/-- The row of a value that fits. -/
def packL (fs : List Fld) (vs : List WI) : List UInt8 := padL (pkRun fs vs).1 (pSize fs)
def packS (fs : List Fld) (vs : List WI) : ByteArray := if fitC fs vs = 0 then ⟨(packL fs vs).toArray⟩ else ⟨#[]⟩

theorem pkRun_next {fs : List Fld} {vs : List WI} {k : Nat} {f : Fld} (h : fs[k]? = some f) : pkRun (fs.take (k + 1)) vs = pkStep (pkRun (fs.take k) vs) f := by
  unfold pkRun; rw [take_next h, List.foldl_append]; rfl
theorem le_upN (a s : Nat) (hs : 1 ≤ s) : a ≤ upN a s := by
  unfold upN
  have h := Nat.div_add_mod (a + s - 1) s
  have h2 := Nat.mod_lt (a + s - 1) (show 0 < s by omega)
  rw [Nat.mul_comm] at h
  omega
theorem putL_len (k : Int) (x : WI) : (putL k x).length = szN k := leL_len _ _
theorem flat_len {α : Type} (g : α → List UInt8) (c : Nat) : ∀ l : List α, (∀ x ∈ l, (g x).length = c) → (l.flatMap g).length = l.length * c
  | [], _ => by simp
  | x :: r, h => by
    rw [List.flatMap_cons, List.length_append, h x (by simp), flat_len g c r (fun y hy => h y (by simp [hy])), List.length_cons, Nat.add_mul]
    omega
theorem padL_len (l : List UInt8) (m : Nat) (h : l.length ≤ m) : (padL l m).length = m := by
  unfold padL
  rw [List.length_append, List.length_replicate]
  omega
/-- Behind each field: how long the row is, what is left of the numbers. -/
theorem pk_inv {fs : List Fld} {vs : List WI} (hok : ∀ f ∈ fs, okF f) (hlen : vs.length = sumN fs) : ∀ k, k ≤ fs.length →
    (pkRun (fs.take k) vs).2 = vs.drop (sumN (fs.take k)) ∧ (pkRun (fs.take k) vs).1.length = (pRun (fs.take k)).1 ∧ (pkRun (fs.take k) vs).2.length = sumN (fs.drop k)
  | 0, _ => by
    rw [List.take_zero, List.drop_zero]
    exact ⟨rfl, rfl, hlen⟩
  | k + 1, hk => by
    obtain ⟨h1, h2, h3⟩ := pk_inv hok hlen k (by omega)
    obtain ⟨f, hf⟩ : ∃ f, fs[k]? = some f := ⟨fs[k], by simp [show k < fs.length by omega]⟩
    have ho := hok f (List.mem_of_getElem? hf)
    have hd : sumN (fs.drop k) = f.count.toNat + sumN (fs.drop (k + 1)) := by rw [drop_next hf]; rfl
    rw [pkRun_next hf, pRun_next hf]
    unfold pkStep pStep
    refine ⟨?_, ?_, ?_⟩
    · show ((pkRun (fs.take k) vs).2).drop f.count.toNat = _
      rw [h1, List.drop_drop, sumN_next hf]
    · show (padL (pkRun (fs.take k) vs).1 (upN (pkRun (fs.take k) vs).1.length (szN f.kind)) ++ ((pkRun (fs.take k) vs).2.take f.count.toNat).flatMap (putL f.kind)).length = upN (pRun (fs.take k)).1 (szN f.kind) + szN f.kind * f.count.toNat
      rw [List.length_append, padL_len _ _ (le_upN _ _ ho.1), flat_len _ (szN f.kind) _ (fun x _ => putL_len _ x), h2, List.length_take, h3, Nat.min_eq_left (by omega), Nat.mul_comm]
    · show (((pkRun (fs.take k) vs).2).drop f.count.toNat).length = _
      rw [List.length_drop, h3]
      omega
/-- Where a field begins. -/
theorem at_of (fs : List Fld) : ∀ k, k ≤ fs.length → (pRun (fs.take k)).2.2.length = k ∧ ∀ i f, i < k → fs[i]? = some f → (pRun (fs.take k)).2.2[i]? = some (upN (pRun (fs.take i)).1 (szN f.kind))
  | 0, _ => by
    rw [List.take_zero]
    exact ⟨rfl, fun i f h => by omega⟩
  | k + 1, hk => by
    obtain ⟨h1, h2⟩ := at_of fs k (by omega)
    obtain ⟨g, hg⟩ : ∃ f, fs[k]? = some f := ⟨fs[k], by simp [show k < fs.length by omega]⟩
    rw [pRun_next hg]
    unfold pStep
    refine ⟨by simp [h1], fun i f hi hf => ?_⟩
    dsimp only
    by_cases he : i = k
    · subst he
      rw [hg] at hf
      injection hf with hf
      subst hf
      rw [List.getElem?_append_right (by omega), h1, Nat.sub_self]
      rfl
    · rw [List.getElem?_append_left (by omega)]
      exact h2 i f (by omega) hf
theorem pRun_le {fs : List Fld} (hok : ∀ f ∈ fs, okF f) : ∀ k, k ≤ fs.length → (pRun (fs.take k)).1 ≤ 71 * k ∧ 1 ≤ (pRun (fs.take k)).2.1 ∧ (pRun (fs.take k)).2.1 ≤ 8
  | 0, _ => by
    rw [List.take_zero]
    exact ⟨Nat.le_refl _, Nat.le_refl _, by show 1 ≤ 8; omega⟩
  | k + 1, hk => by
    obtain ⟨h1, h2⟩ := pRun_le hok k (by omega)
    obtain ⟨f, hf⟩ : ∃ f, fs[k]? = some f := ⟨fs[k], by simp [show k < fs.length by omega]⟩
    have := pStep_le h1 h2 (hok f (List.mem_of_getElem? hf))
    rw [pRun_next hf]
    exact ⟨by omega, this.2⟩
theorem fitRun_drop {fs : List Fld} {vs : List WI} (h : fitRun fs vs = true) : ∀ k, k ≤ fs.length → fitRun (fs.drop k) (pkRun (fs.take k) vs).2 = true
  | 0, _ => by
    rw [List.take_zero, List.drop_zero]
    exact h
  | k + 1, hk => by
    have ih := fitRun_drop h k (by omega)
    obtain ⟨f, hf⟩ : ∃ f, fs[k]? = some f := ⟨fs[k], by simp [show k < fs.length by omega]⟩
    rw [drop_next hf, fitRun, Bool.and_eq_true] at ih
    rw [pkRun_next hf]
    exact ih.2
theorem fitRun_at {fs : List Fld} {vs : List WI} (h : fitRun fs vs = true) {k : Nat} {f : Fld} (hf : fs[k]? = some f) : ∀ x ∈ (pkRun (fs.take k) vs).2.take f.count.toNat, fitsB f.kind x = true := by
  have hk : k < fs.length := (List.getElem?_eq_some_iff.1 hf).1
  have ih := fitRun_drop h k (by omega)
  rw [drop_next hf, fitRun, Bool.and_eq_true, List.all_eq_true] at ih
  exact ih.1
end Go.Proofs.Ytkgkcnmnfhehfaa
