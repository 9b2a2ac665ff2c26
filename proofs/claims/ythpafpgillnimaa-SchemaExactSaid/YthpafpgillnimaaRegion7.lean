/- What is proved: a test of a drawn region's plan that is quick for the greatest regions: what an operation waits for is found once. -/
import Derived.Test.YthpafpgillnimaaRegion4
namespace Go.Proofs.Plan
section
variable {P : Program} {ops : Array Oper} {md : Region.Mode}

/-- What an operation waits for itself. -/
def succs (md : Region.Mode) (ops : Array Oper) (i : Nat) : List Nat := match ops[i]? with | some o => (o.after.toList.filter (fun e => Region.binds md e)).map (·.on) | none => []
def reachD (md : Region.Mode) (ops : Array Oper) : Nat → List Nat → List Nat
  | 0, m => m
  | i + 1, m => reachD md ops i (if m.contains i = true then succs md ops i ++ m else m)
def reach (md : Region.Mode) (ops : Array Oper) (k : Nat) : List Nat := reachD md ops k (succs md ops k)

theorem mem_succs {i c : Nat} (h : c ∈ succs md ops i) : ∃ o e, ops[i]? = some o ∧ e ∈ o.after ∧ Region.binds md e = true ∧ e.on = c := by
  unfold succs at h
  split at h
  · rename_i o ho
    obtain ⟨e, he, rfl⟩ := List.mem_map.1 h
    rw [List.mem_filter] at he
    exact ⟨o, e, ho, by simpa using he.1, he.2, rfl⟩
  · cases h
theorem anc_succ {i c : Nat} (h : c ∈ succs md ops i) : anc md ops 1 i c = true := by
  obtain ⟨o, e, ho, he, hb, hc⟩ := mem_succs h
  unfold Plan.anc
  rw [ho]
  simp only
  rw [Array.any_eq_true']
  exact ⟨e, he, by simp [hb, hc]⟩
theorem anc_snoc : ∀ (n k i c : Nat), anc md ops n k i = true → c ∈ succs md ops i → anc md ops (n + 1) k c = true
  | 0, _, _, _, h, _ => by simp [Plan.anc] at h
  | n + 1, k, i, c, h, hc => by
    unfold Plan.anc at h
    split at h
    · rename_i ok hok
      rw [Array.any_eq_true'] at h
      obtain ⟨e, he, h⟩ := h
      simp only [Bool.and_eq_true, Bool.or_eq_true, beq_iff_eq] at h
      unfold Plan.anc
      rw [hok]
      simp only
      rw [Array.any_eq_true']
      refine ⟨e, he, ?_⟩
      simp only [Bool.and_eq_true, Bool.or_eq_true, beq_iff_eq]
      refine ⟨h.1, .inr ?_⟩
      rcases h.2 with e1 | e1
      · subst e1
        exact anc_mono 1 (n + 1) _ _ (by omega) (anc_succ hc)
      · exact anc_snoc n e.on i c e1 hc
    · cases h
theorem reachD_sound {k : Nat} : ∀ (i n : Nat) (m : List Nat), (∀ c ∈ m, anc md ops n k c = true) → ∀ c ∈ reachD md ops i m, anc md ops (n + i) k c = true
  | 0, _, _, h, c, hc => h c hc
  | i + 1, n, m, h, c, hc => by
    rw [reachD] at hc
    have := reachD_sound i (n + 1) (if m.contains i = true then succs md ops i ++ m else m) (fun d hd => by
      split at hd
      · rename_i hi
        rcases List.mem_append.1 hd with h2 | h2
        · exact anc_snoc n k i d (h i (by simpa using hi)) h2
        · exact anc_mono n (n + 1) _ _ (by omega) (h d h2)
      · exact anc_mono n (n + 1) _ _ (by omega) (h d hd)) c hc
    rwa [show n + (i + 1) = n + 1 + i by omega]
theorem reach_ancd {k c : Nat} (hk : k < ops.size) (h : c ∈ reach md ops k) : ancd md ops k c = true := by
  have := reachD_sound (k := k) k 1 (succs md ops k) (fun c hc => anc_succ hc) c h
  unfold ancd
  simp only [Bool.or_eq_true]
  exact .inr (anc_mono _ _ _ _ (by omega) this)

def planOk3 (md : Region.Mode) (ops : Array Oper) : List Nat → Array Bool → List (Bool × Nat × List Nat) → Bool
  | _, listed, [] => (Region.ready md ops listed).isEmpty
  | pend, listed, (false, i, _) :: r => (Region.ready md ops listed).contains i && Region.free md ops listed i &&
      (match ops[i]? with | some oi => own ops oi && pend.all (fun c => match ops[c]? with | some oc => half ops oi oc | none => false) | none => false) &&
      planOk3 md ops (i :: pend) (listed.setIfInBounds i true) r
  | pend, listed, (true, k, l) :: r => Region.ready md ops listed == [k] && decide (k < ops.size) && pend.all (fun c => l.contains c || (reach md ops k).contains c) && l.all (fun c => decide (c < ops.size)) &&
      planOk3 md ops l (listed.setIfInBounds k true) r

theorem planOk3_2 : ∀ (plan : List (Bool × Nat × List Nat)) (pend : List Nat) (listed : Array Bool), planOk3 md ops pend listed plan = true → planOk2 md ops pend listed plan = true
  | [], _, _, h => h
  | (false, i, l) :: r, pend, listed, h => by
    unfold planOk3 at h
    unfold planOk2
    rw [Bool.and_eq_true] at h ⊢
    exact ⟨h.1, planOk3_2 r _ _ h.2⟩
  | (true, k, l) :: r, pend, listed, h => by
    unfold planOk3 at h
    unfold planOk2
    simp only [Bool.and_eq_true] at h ⊢
    obtain ⟨⟨⟨⟨h1, hk⟩, h2⟩, h3⟩, h4⟩ := h
    refine ⟨⟨⟨h1, ?_⟩, h3⟩, planOk3_2 r _ _ h4⟩
    rw [List.all_eq_true] at h2 ⊢
    intro c hc
    have := h2 c hc
    simp only [Bool.or_eq_true] at this ⊢
    rcases this with e | e
    · exact .inl e
    · exact .inr (reach_ancd (of_decide_eq_true hk) (by simpa using e))

def planB3 (md : Region.Mode) (ops : Array Oper) (plan : List (Bool × Nat × List Nat)) : Bool :=
  Region.noSelect ops && plan.length == ops.size && planOk3 md ops [] (Array.replicate ops.size false) plan
theorem planB3_2 {plan : List (Bool × Nat × List Nat)} (h : planB3 md ops plan = true) : planB2 md ops plan = true := by
  unfold planB3 at h
  unfold planB2
  rw [Bool.and_eq_true] at h ⊢
  exact ⟨h.1, planOk3_2 _ _ _ h.2⟩
theorem wp_region_pl3 {id : Nat} {Q : Exit → Act → World → Prop} {a : Act} {w : World} {l : List Oper} (plan : List (Bool × Nat × List Nat)) (hm : P.follows .mixedOrders = true) (hB : planB3 .any l.toArray plan = true)
    (h : Stop (wpPlan P l.toArray (Q .normal) plan a w.drew)) : (Code.region id l.toArray true).wp P Q a w := wp_region_pl plan hm (planB3_2 hB) h
end
end Go.Proofs.Plan
