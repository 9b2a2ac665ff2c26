/- What is proved: the same as in Region, with a test of the plan that is quick for great regions. -/
import Derived.Test.YthpafpgillnimaaRegion
namespace Go.Proofs.Plan
section
variable {P : Program} {ops : Array Oper} {md : Region.Mode}

theorem anc_mono : ∀ (n m j i : Nat), n ≤ m → anc md ops n j i = true → anc md ops m j i = true
  | 0, _, _, _, _, h => by simp [Plan.anc] at h
  | n + 1, 0, _, _, hm, _ => by omega
  | n + 1, m + 1, j, i, hm, h => by
    unfold Plan.anc at h ⊢
    split at h
    · rename_i oj hoj
      rw [Array.any_eq_true'] at h ⊢
      obtain ⟨e, he, h⟩ := h
      refine ⟨e, he, ?_⟩
      simp only [Bool.and_eq_true, Bool.or_eq_true, beq_iff_eq] at h ⊢
      exact ⟨h.1, h.2.imp id (anc_mono n m _ _ (by omega))⟩
    · cases h

/-- By short ways first. -/
def ancd (md : Region.Mode) (ops : Array Oper) (k c : Nat) : Bool :=
  anc md ops (min 1 ops.size) k c || anc md ops (min 2 ops.size) k c || anc md ops (min 3 ops.size) k c || anc md ops (min 5 ops.size) k c || anc md ops ops.size k c

theorem ancd_spec {k c : Nat} (h : ancd md ops k c = true) : anc md ops ops.size k c = true := by
  simp only [ancd, Bool.or_eq_true] at h
  rcases h with (((h | h) | h) | h) | h
  · exact anc_mono _ _ _ _ (Nat.min_le_right ..) h
  · exact anc_mono _ _ _ _ (Nat.min_le_right ..) h
  · exact anc_mono _ _ _ _ (Nat.min_le_right ..) h
  · exact anc_mono _ _ _ _ (Nat.min_le_right ..) h
  · exact h

def planOk2 (md : Region.Mode) (ops : Array Oper) : List Nat → Array Bool → List (Bool × Nat × List Nat) → Bool
  | _, listed, [] => (Region.ready md ops listed).isEmpty
  | pend, listed, (false, i, _) :: r => (Region.ready md ops listed).contains i && Region.free md ops listed i &&
      (match ops[i]? with | some oi => own ops oi && pend.all (fun c => match ops[c]? with | some oc => half ops oi oc | none => false) | none => false) &&
      planOk2 md ops (i :: pend) (listed.setIfInBounds i true) r
  | pend, listed, (true, k, l) :: r => Region.ready md ops listed == [k] && pend.all (fun c => l.contains c || ancd md ops k c) && l.all (fun c => decide (c < ops.size)) &&
      planOk2 md ops l (listed.setIfInBounds k true) r

def planB2 (md : Region.Mode) (ops : Array Oper) (plan : List (Bool × Nat × List Nat)) : Bool :=
  Region.noSelect ops && plan.length == ops.size && planOk2 md ops [] (Array.replicate ops.size false) plan

theorem wpAnyR_plan2 {Q : Act → World → Prop} (hsel : ∀ (j : Nat) (o : Oper) cs b, ops[j]? = some o → o.op ≠ .select cs b) : ∀ (plan : List (Bool × Nat × List Nat)) (pend : List Nat) (listed : Array Bool) (a : Act) (w : World),
    Closed md ops listed → (∀ c ∈ pend, ∃ o, ops[c]? = some o) → (∀ c ∈ pend, Redo P ops c a w) → planOk2 md ops pend listed plan = true → wpPlan P ops Q plan a w → wpAnyR P md ops Q pend plan.length listed a w
  | [], pend, listed, a, w, _, _, _, hB, h => by
    rw [List.length_nil, wpAnyR]
    exact ⟨by simpa [planOk2] using hB, h⟩
  | (false, i, l) :: r, pend, listed, a, w, hcl, hin, hre, hB, h => by
    simp only [planOk2, Bool.and_eq_true] at hB
    obtain ⟨⟨⟨hr, hf⟩, ho⟩, hB'⟩ := hB
    have hr' : i ∈ Region.ready md ops listed := by simpa using hr
    obtain ⟨_, oi, hoi, _⟩ := mem_ready.1 hr'
    simp only [hoi, Bool.and_eq_true, List.all_eq_true] at ho
    obtain ⟨hown, hap⟩ := ho
    have hp : ∀ c ∈ pend, ∃ oc, ops[c]? = some oc ∧ half ops oi oc = true := fun c hc => by
      obtain ⟨oc, hoc⟩ := hin c hc
      have := hap c hc
      simp only [hoc] at this
      exact ⟨oc, hoc, this⟩
    rw [wpPlan] at h
    obtain ⟨v, hy, hK⟩ := yieldsAt_of_qOp hoi h
    refine wpAnyR_first hoi hsel hown r.length pend listed a w v hcl (Region.free_spec hoi hf) hp hr' hy ?_ hre
    refine wpAnyR_plan2 hsel r (i :: pend) _ _ w (hcl.set hr') (fun c hc => ?_) (fun c hc => ?_) hB' hK
    · rcases List.mem_cons.1 hc with rfl | hc
      · exact ⟨oi, hoi⟩
      · exact hin c hc
    · rcases List.mem_cons.1 hc with rfl | hc
      · exact YieldsAt.redo hoi hown (fun cs b => hsel c oi cs b hoi) hy
      · obtain ⟨oc, hoc, hapc⟩ := hp c hc
        exact (hre c hc).put hoc hapc (fun cs b => hsel c oc cs b hoc)
  | (true, k, l) :: r, pend, listed, a, w, hcl, hin, hre, hB, h => by
    simp only [planOk2, Bool.and_eq_true, beq_iff_eq, List.all_eq_true, List.contains_iff_mem, Bool.or_eq_true, decide_eq_true_eq] at hB
    obtain ⟨⟨⟨hr, hl⟩, hlt⟩, hB'⟩ := hB
    have hr' : k ∈ Region.ready md ops listed := by rw [hr]; exact List.mem_cons_self ..
    rw [List.length_cons, wpAnyR]
    refine ⟨fun h => (by rw [h] at hr'; cases hr'), fun j hj => ?_⟩
    rw [hr] at hj
    obtain rfl : j = k := by simpa using hj
    rw [wpPlan] at h
    refine wpOp_mono (fun a' w' h' => ?_) h
    have hsub : ∀ c ∈ rest md ops j pend, c ∈ l := fun c hc => by
      rw [rest, List.mem_filter] at hc
      rcases hl c hc.1 with e | e
      · exact e
      · have := hc.2; rw [ancd_spec e] at this; cases this
    have hinl : ∀ c ∈ l, ∃ o, ops[c]? = some o := fun c hc => ⟨_, Array.getElem?_eq_getElem (hlt c hc)⟩
    have hrel : ∀ c ∈ l, Redo P ops c a' w' := fun c hc => redo_of_chk l h'.1 c hc (hinl c hc)
    exact ⟨fun c hc => hrel c (hsub c hc), wpAnyR_sub _ hsub _ _ _ (wpAnyR_plan2 hsel r _ _ a' w' (hcl.set hr') hinl hrel hB' h'.2)⟩

/-- **A REGION THAT DRAWS ITS ORDER, WALKED ONCE, BY A PLAN**: the test is quick. -/
theorem wp_region_plan2 {id : Nat} {Q : Exit → Act → World → Prop} {a : Act} {w : World} {l : List Oper} (plan : List (Bool × Nat × List Nat)) (hm : P.follows .mixedOrders = true) (hB : planB2 .any l.toArray plan = true)
    (h : wpPlan P l.toArray (Q .normal) plan a w.drew) : (Code.region id l.toArray true).wp P Q a w := by
  simp only [planB2, Bool.and_eq_true, beq_iff_eq] at hB
  obtain ⟨⟨hs, hlen⟩, hB⟩ := hB
  refine wp_region_any hm (wpAny_of_R (Q := Q .normal) (fun _ _ h => h) _ [] _ _ _ ?_)
  have := wpAnyR_plan2 (md := .any) (Region.noSelect_spec hs) plan [] (Array.replicate l.toArray.size false) a w.drew
    (fun j oj hj hl => by rw [rep_false] at hl; cases hl) (fun c hc => by cases hc) (fun c hc => by cases hc) hB h
  rw [hlen] at this
  exact this
end
end Go.Proofs.Plan
