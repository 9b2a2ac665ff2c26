/- What is proved: the same as in Region2, with a plan that may part where two active operations may come in either order. -/
import Derived.Test.YthpafpgillnimaaRegion2
namespace Go.Proofs.Plan
section
variable {P : Program} {ops : Array Oper} {md : Region.Mode}

/-- A plan that may part. -/
inductive Tree where
  | done
  | st (i : Nat) (r : Tree)
  | ac (k : Nat) (l : List Nat) (r : Tree)
  | br (k1 : Nat) (l1 : List Nat) (r1 : Tree) (k2 : Nat) (l2 : List Nat) (r2 : Tree)

def Tree.len : Tree → Nat
  | .done => 0
  | .st _ r => r.len + 1
  | .ac _ _ r => r.len + 1
  | .br _ _ r1 _ _ _ => r1.len + 1

def wpTree (P : Program) (ops : Array Oper) (Q : Act → World → Prop) : Tree → Act → World → Prop
  | .done, a, w => Q a w
  | .st i r, a, w => qOp P ops (fun w' => w' = w) i (fun a' => wpTree P ops Q r a' w) a
  | .ac k l r, a, w => wpOp P ops NoQ k (fun a' w' => wpChk P ops l a' w' ∧ wpTree P ops Q r a' w') a w
  | .br k1 l1 r1 k2 l2 r2, a, w => wpOp P ops NoQ k1 (fun a' w' => wpChk P ops l1 a' w' ∧ wpTree P ops Q r1 a' w') a w ∧ wpOp P ops NoQ k2 (fun a' w' => wpChk P ops l2 a' w' ∧ wpTree P ops Q r2 a' w') a w

def acOk (md : Region.Mode) (ops : Array Oper) (pend : List Nat) (k : Nat) (l : List Nat) : Bool :=
  pend.all (fun c => l.contains c || ancd md ops k c) && l.all (fun c => decide (c < ops.size))

def treeOk (md : Region.Mode) (ops : Array Oper) : List Nat → Array Bool → Tree → Bool
  | _, listed, .done => (Region.ready md ops listed).isEmpty
  | pend, listed, .st i r => (Region.ready md ops listed).contains i && Region.free md ops listed i &&
      (match ops[i]? with | some oi => own ops oi && pend.all (fun c => match ops[c]? with | some oc => half ops oi oc | none => false) | none => false) &&
      treeOk md ops (i :: pend) (listed.setIfInBounds i true) r
  | pend, listed, .ac k l r => Region.ready md ops listed == [k] && acOk md ops pend k l && treeOk md ops l (listed.setIfInBounds k true) r
  | pend, listed, .br k1 l1 r1 k2 l2 r2 => Region.ready md ops listed == [k1, k2] && r1.len == r2.len && acOk md ops pend k1 l1 && acOk md ops pend k2 l2 &&
      treeOk md ops l1 (listed.setIfInBounds k1 true) r1 && treeOk md ops l2 (listed.setIfInBounds k2 true) r2

def treeB (md : Region.Mode) (ops : Array Oper) (plan : Tree) : Bool :=
  Region.noSelect ops && plan.len == ops.size && treeOk md ops [] (Array.replicate ops.size false) plan

theorem acOk_spec {pend l : List Nat} {k : Nat} (h : acOk md ops pend k l = true) : (∀ c ∈ rest md ops k pend, c ∈ l) ∧ (∀ c ∈ l, ∃ o, ops[c]? = some o) := by
  simp only [acOk, Bool.and_eq_true, List.all_eq_true, List.contains_iff_mem, Bool.or_eq_true, decide_eq_true_eq] at h
  refine ⟨fun c hc => ?_, fun c hc => ⟨_, Array.getElem?_eq_getElem (h.2 c hc)⟩⟩
  rw [rest, List.mem_filter] at hc
  rcases h.1 c hc.1 with e | e
  · exact e
  · have := hc.2; rw [ancd_spec e] at this; cases this

theorem wpAnyR_tree {Q : Act → World → Prop} (hsel : ∀ (j : Nat) (o : Oper) cs b, ops[j]? = some o → o.op ≠ .select cs b) : ∀ (plan : Tree) (pend : List Nat) (listed : Array Bool) (a : Act) (w : World),
    Closed md ops listed → (∀ c ∈ pend, ∃ o, ops[c]? = some o) → (∀ c ∈ pend, Redo P ops c a w) → treeOk md ops pend listed plan = true → wpTree P ops Q plan a w → wpAnyR P md ops Q pend plan.len listed a w
  | .done, pend, listed, a, w, _, _, _, hB, h => by
    rw [Tree.len, wpAnyR]
    exact ⟨by simpa [treeOk] using hB, h⟩
  | .st i r, pend, listed, a, w, hcl, hin, hre, hB, h => by
    simp only [treeOk, Bool.and_eq_true] at hB
    obtain ⟨⟨⟨hr, hf⟩, ho⟩, hB'⟩ := hB
    have hr' : i ∈ Region.ready md ops listed := by simpa using hr
    obtain ⟨_, oi, hoi, _⟩ := mem_ready.1 hr'
    simp only [hoi, Bool.and_eq_true, List.all_eq_true] at ho
    obtain ⟨hown, hap⟩ := ho
    have hp : ∀ c ∈ pend, ∃ oc, ops[c]? = some oc ∧ half ops oi oc = true := fun c hc => by
      obtain ⟨oc, hoc⟩ := hin c hc
      have := hap c hc
      simp only [hoc] at this
      exact ⟨oc, hoc, this⟩
    rw [wpTree] at h
    obtain ⟨v, hy, hK⟩ := yieldsAt_of_qOp hoi h
    refine wpAnyR_first hoi hsel hown r.len pend listed a w v hcl (Region.free_spec hoi hf) hp hr' hy ?_ hre
    refine wpAnyR_tree hsel r (i :: pend) _ _ w (hcl.set hr') (fun c hc => ?_) (fun c hc => ?_) hB' hK
    · rcases List.mem_cons.1 hc with rfl | hc
      · exact ⟨oi, hoi⟩
      · exact hin c hc
    · rcases List.mem_cons.1 hc with rfl | hc
      · exact YieldsAt.redo hoi hown (fun cs b => hsel c oi cs b hoi) hy
      · obtain ⟨oc, hoc, hapc⟩ := hp c hc
        exact (hre c hc).put hoc hapc (fun cs b => hsel c oc cs b hoc)
  | .ac k l r, pend, listed, a, w, hcl, hin, hre, hB, h => by
    simp only [treeOk, Bool.and_eq_true, beq_iff_eq] at hB
    obtain ⟨⟨hr, hl⟩, hB'⟩ := hB
    obtain ⟨hsub, hinl⟩ := acOk_spec hl
    have hr' : k ∈ Region.ready md ops listed := by rw [hr]; exact List.mem_cons_self ..
    rw [Tree.len, wpAnyR]
    refine ⟨fun h => (by rw [h] at hr'; cases hr'), fun j hj => ?_⟩
    rw [hr] at hj
    obtain rfl : j = k := by simpa using hj
    rw [wpTree] at h
    refine wpOp_mono (fun a' w' h' => ?_) h
    have hrel : ∀ c ∈ l, Redo P ops c a' w' := fun c hc => redo_of_chk l h'.1 c hc (hinl c hc)
    exact ⟨fun c hc => hrel c (hsub c hc), wpAnyR_sub _ hsub _ _ _ (wpAnyR_tree hsel r _ _ a' w' (hcl.set hr') hinl hrel hB' h'.2)⟩
  | .br k1 l1 r1 k2 l2 r2, pend, listed, a, w, hcl, hin, hre, hB, h => by
    simp only [treeOk, Bool.and_eq_true, beq_iff_eq] at hB
    obtain ⟨⟨⟨⟨⟨hr, hlen⟩, hl1⟩, hl2⟩, hB1⟩, hB2⟩ := hB
    obtain ⟨hsub1, hinl1⟩ := acOk_spec hl1
    obtain ⟨hsub2, hinl2⟩ := acOk_spec hl2
    have hr1 : k1 ∈ Region.ready md ops listed := by rw [hr]; simp
    have hr2 : k2 ∈ Region.ready md ops listed := by rw [hr]; simp
    rw [Tree.len, wpAnyR]
    refine ⟨fun h => (by rw [h] at hr1; cases hr1), fun j hj => ?_⟩
    rw [hr] at hj
    rw [wpTree] at h
    have hj' : j = k1 ∨ j = k2 := by simpa using hj
    rcases hj' with rfl | rfl
    · refine wpOp_mono (fun a' w' h' => ?_) h.1
      have hrel : ∀ c ∈ l1, Redo P ops c a' w' := fun c hc => redo_of_chk l1 h'.1 c hc (hinl1 c hc)
      exact ⟨fun c hc => hrel c (hsub1 c hc), wpAnyR_sub _ hsub1 _ _ _ (wpAnyR_tree hsel r1 _ _ a' w' (hcl.set hr1) hinl1 hrel hB1 h'.2)⟩
    · refine wpOp_mono (fun a' w' h' => ?_) h.2
      have hrel : ∀ c ∈ l2, Redo P ops c a' w' := fun c hc => redo_of_chk l2 h'.1 c hc (hinl2 c hc)
      rw [hlen]
      exact ⟨fun c hc => hrel c (hsub2 c hc), wpAnyR_sub _ hsub2 _ _ _ (wpAnyR_tree hsel r2 _ _ a' w' (hcl.set hr2) hinl2 hrel hB2 h'.2)⟩

/-- **A REGION THAT DRAWS ITS ORDER, WALKED BY A PLAN THAT MAY PART.** -/
theorem wp_region_tree {id : Nat} {Q : Exit → Act → World → Prop} {a : Act} {w : World} {l : List Oper} (plan : Tree) (hm : P.follows .mixedOrders = true) (hB : treeB .any l.toArray plan = true)
    (h : wpTree P l.toArray (Q .normal) plan a w.drew) : (Code.region id l.toArray true).wp P Q a w := by
  simp only [treeB, Bool.and_eq_true, beq_iff_eq] at hB
  obtain ⟨⟨hs, hlen⟩, hB⟩ := hB
  refine wp_region_any hm (wpAny_of_R (Q := Q .normal) (fun _ _ h => h) _ [] _ _ _ ?_)
  have := wpAnyR_tree (md := .any) (Region.noSelect_spec hs) plan [] (Array.replicate l.toArray.size false) a w.drew
    (fun j oj hj hl => by rw [rep_false] at hl; cases hl) (fun c hc => by cases hc) (fun c hc => by cases hc) hB h
  rw [hlen] at this
  exact this

/-- One step that only reads. -/
theorem tree_st {ops : List Oper} {Q : Act → World → Prop} {i : Nat} {r : Tree} {o : Oper} {a : Act} {w : World} (hi : ops[i]? = some o)
    (h : wpQuiet P ops.toArray (fun w' => w' = w) (fun a' => wpTree P ops.toArray Q r a' w) [o] a) : wpTree P ops.toArray Q (.st i r) a w := by
  rw [wpTree]; unfold qOp; simp only [List.getElem?_toArray, hi]
  exact h

/-- Behind an active step. -/
def TreeQ (P : Program) (ops : Array Oper) (Q : Act → World → Prop) (l : List Nat) (r : Tree) : Exit → Act → World → Prop
  | .normal, a, w => wpChk P ops l a w ∧ wpTree P ops Q r a w
  | _, _, _ => False

theorem treeQ_mk {Q : Act → World → Prop} {l : List Nat} {r : Tree} {a : Act} {w : World} (h1 : wpChk P ops l a w) (h2 : wpTree P ops Q r a w) : TreeQ P ops Q l r .normal a w := ⟨h1, h2⟩

theorem tree_op {ops : List Oper} {Q : Act → World → Prop} {k : Nat} {l : List Nat} {r : Tree} {o : Oper} {a : Act} {w : World} (hi : ops[k]? = some o)
    (h : wpList P ops.toArray (TreeQ P ops.toArray Q l r) [o] a w) : wpOp P ops.toArray NoQ k (fun a' w' => wpChk P ops.toArray l a' w' ∧ wpTree P ops.toArray Q r a' w') a w := by
  unfold wpOp; simp only [List.getElem?_toArray, hi]
  unfold wpList at h
  split
  · rename_i hw
    rw [if_pos hw] at h
    have key : ∀ {K : Act → World → Prop} , o.wp P a w K (TreeQ P ops.toArray Q l r) → o.wp P a w K NoQ := by
      intro K h
      unfold Oper.wp at *
      generalize (execOp a.eval o).run P w = r at *
      cases r with
      | ok n w' =>
        cases n <;> simp only [Oper.upon] at h ⊢ <;> first
          | exact h
          | exact Calls.mono h (fun e w'' he => by cases e with
              | returned v => exact he
              | panicked c => exact he.elim
              | outgrown => exact he.elim fun _ ⟨_, hf⟩ => hf.elim)
      | halt x w' => cases x <;> simp only [Oper.upon] at h ⊢ <;> exact h.elim
    rcases h with h | ⟨_, _, _, hf⟩
    · exact .inl (key h)
    · exact hf.elim
  · rename_i hw
    rw [if_neg hw] at h
    exact h

theorem tree_ac {ops : List Oper} {Q : Act → World → Prop} {k : Nat} {l : List Nat} {r : Tree} {o : Oper} {a : Act} {w : World} (hi : ops[k]? = some o)
    (h : wpList P ops.toArray (TreeQ P ops.toArray Q l r) [o] a w) : wpTree P ops.toArray Q (.ac k l r) a w := by
  rw [wpTree]; exact tree_op hi h

theorem tree_br {ops : List Oper} {Q : Act → World → Prop} {k1 k2 : Nat} {l1 l2 : List Nat} {r1 r2 : Tree} {o1 o2 : Oper} {a : Act} {w : World} (hi1 : ops[k1]? = some o1) (hi2 : ops[k2]? = some o2)
    (h1 : wpList P ops.toArray (TreeQ P ops.toArray Q l1 r1) [o1] a w) (h2 : wpList P ops.toArray (TreeQ P ops.toArray Q l2 r2) [o2] a w) : wpTree P ops.toArray Q (.br k1 l1 r1 k2 l2 r2) a w := by
  rw [wpTree]; exact ⟨tree_op hi1 h1, tree_op hi2 h2⟩

theorem tree_end {Q : Act → World → Prop} {a : Act} {w : World} (h : Q a w) : wpTree P ops Q .done a w := h
end
end Go.Proofs.Plan
