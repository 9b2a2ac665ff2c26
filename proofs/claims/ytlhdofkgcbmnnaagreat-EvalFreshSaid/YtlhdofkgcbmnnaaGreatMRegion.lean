/- What is proved: a region that draws its order may be walked once, in a planned order or along a tree of plans, if the read-only operations that are still open are found the same behind every active one; the test of a plan; the plan's steps, boxed. -/
import Derived.WalkKit
import Derived.WalkSpells
import Derived.WalkLawsBesides
import Derived.Deep.QuietTactic
import Derived.BigQuiet
import Derived.Test.YtlhdofkgcbmnnaaGreatMHeap
namespace Go.Proofs.Plan
section
variable {P : Program} {ops : Array Oper} {md : Region.Mode}

def NoQ : Exit → Act → World → Prop := fun _ _ _ => False

/-- Operation c, carried out again in this state, gives what its slot holds, and leaves the world. -/
def Redo (P : Program) (ops : Array Oper) (c : Nat) (a : Act) (w : World) : Prop :=
  ∃ o v, ops[c]? = some o ∧ YieldsAt P ops w o v a ∧ ∀ d, o.dst = some d → ∀ x, a.tmps[d]? = some x → x = v

/-- What an operation waits for, through others too. -/
def anc (md : Region.Mode) (ops : Array Oper) : Nat → Nat → Nat → Bool
  | 0, _, _ => false
  | n + 1, j, i => match ops[j]? with
    | some oj => oj.after.any fun e => Region.binds md e && (e.on == i || anc md ops n e.on i)
    | none => false

def Closed (md : Region.Mode) (ops : Array Oper) (listed : Array Bool) : Prop :=
  ∀ j oj, ops[j]? = some oj → listed.getD j false = true → ∀ e ∈ oj.after, Region.binds md e = true → listed.getD e.on false = true

theorem getD_both' {listed : Array Bool} {i : Nat} (h : listed.getD i true = false) : listed.getD i false = false := by
  rcases Nat.lt_or_ge i listed.size with h' | h'
  · simp [h'] at h ⊢; exact h
  · simp [Array.getElem?_eq_none h'] at h

theorem Closed.anc {listed : Array Bool} (hc : Closed md ops listed) {i : Nat} (hi : listed.getD i false = false) :
    ∀ (n j : Nat), (listed.getD j false = true ∨ j ∈ Region.ready md ops listed) → anc md ops n j i = false := by
  intro n
  induction n with
  | zero => intro j _; rfl
  | succ n ih =>
    intro j hj
    have hdeps : ∀ oj, ops[j]? = some oj → ∀ e ∈ oj.after, Region.binds md e = true → listed.getD e.on false = true := by
      intro oj hoj e he hb
      rcases hj with hl | hr
      · exact hc j oj hoj hl e he hb
      · obtain ⟨_, o, ho, hall⟩ := mem_ready.1 hr
        have : o = oj := Option.some.inj (ho.symm.trans hoj)
        subst this
        exact hall e he hb
    unfold Plan.anc
    split
    · rename_i oj hoj
      rw [Array.any_eq_false']
      intro e he
      simp only [Bool.and_eq_true, Bool.or_eq_true, beq_iff_eq, not_and, not_or, Bool.not_eq_true]
      intro hb
      have h1 := hdeps oj hoj e he hb
      refine ⟨fun h => ?_, ih e.on (.inl h1)⟩
      rw [h] at h1; rw [h1] at hi; cases hi
    · rfl

theorem Closed.set {listed : Array Bool} (hc : Closed md ops listed) {i : Nat} (hi : i ∈ Region.ready md ops listed) : Closed md ops (listed.setIfInBounds i true) := by
  obtain ⟨_, oi, hoi, hall⟩ := mem_ready.1 hi
  intro j oj hj hl e he hb
  by_cases hij : i = j
  · subst hij
    have : oj = oi := Option.some.inj (hj.symm.trans hoi)
    subst this
    exact getD_set_true (hall e he hb)
  · rw [getD_set_ne false hij] at hl
    exact getD_set_true (hc j oj hj hl e he hb)

/-- What does not wait for j. -/
def rest (md : Region.Mode) (ops : Array Oper) (j : Nat) (pend : List Nat) : List Nat := pend.filter fun c => !anc md ops ops.size j c

theorem rest_sub {j : Nat} {pend pend' : List Nat} (h : ∀ c ∈ pend', c ∈ pend) : ∀ c ∈ rest md ops j pend', c ∈ rest md ops j pend := by
  intro c hc
  rw [rest, List.mem_filter] at hc ⊢
  exact ⟨h c hc.1, hc.2⟩
theorem rest_mem {j c : Nat} {pend : List Nat} (h : c ∈ rest md ops j pend) : c ∈ pend := (List.mem_filter.1 h).1

/-- Whatever order is picked from here on; what is pending is given anew behind each operation that does not wait for it. -/
def wpAnyR (P : Program) (md : Region.Mode) (ops : Array Oper) (Q : Act → World → Prop) : List Nat → Nat → Array Bool → Act → World → Prop
  | _, 0, listed, a, w => Region.ready md ops listed = [] ∧ Q a w
  | pend, n + 1, listed, a, w => (Region.ready md ops listed = [] → Q a w) ∧
    ∀ j ∈ Region.ready md ops listed, wpOp P ops NoQ j (fun a' w' => (∀ c ∈ rest md ops j pend, Redo P ops c a' w') ∧ wpAnyR P md ops Q (rest md ops j pend) n (listed.setIfInBounds j true) a' w') a w

theorem wpOp_noQ {Q : Exit → Act → World → Prop} {j : Nat} {K : Act → World → Prop} {a : Act} {w : World} (h : wpOp P ops NoQ j K a w) : wpOp P ops Q j K a w := by
  unfold wpOp at *
  split
  · rename_i ho; simp only [ho] at h; exact h
  · rename_i o ho
    simp only [ho] at h
    split
    · rename_i hw
      simp only [hw, if_true] at h
      rcases h with h | ⟨_, _, _, hf⟩
      · refine .inl ?_
        unfold Oper.wp at *
        generalize (execOp a.eval o).run P w = r at *
        cases r with
        | ok n w' =>
          cases n <;> simp only [Oper.upon] at h ⊢ <;> first
            | exact h
            | exact Calls.mono h (fun e w'' he => by cases e with
                | returned v => exact he
                | panicked c => exact he.elim
                | outgrown => exact he.elim fun _ ⟨_, hf⟩ => hf.elim)
        | halt x w' => cases x <;> simp only [Oper.upon] at h ⊢ <;> exact h.elim
      · exact hf.elim
    · rename_i hw; simp only [hw] at h; exact h

theorem wpAny_of_R {Q : Act → World → Prop} {Q' : Exit → Act → World → Prop} (hQ : ∀ a w, Q a w → Q' .normal a w) : ∀ (fuel : Nat) (pend : List Nat) (listed : Array Bool) (a : Act) (w : World),
    wpAnyR P md ops Q pend fuel listed a w → wpAny P md ops Q' fuel listed a w
  | 0, _, _, _, _, h => ⟨h.1, hQ _ _ h.2⟩
  | fuel + 1, _, _, _, _, h => ⟨fun h0 => hQ _ _ (h.1 h0), fun i hi => wpOp_mono (fun a' w' h' => wpAny_of_R hQ fuel _ _ a' w' h'.2) (wpOp_noQ (h.2 i hi))⟩

/-- What is pending may be forgotten. -/
theorem wpAnyR_sub {Q : Act → World → Prop} : ∀ (fuel : Nat) {pend pend' : List Nat} (_ : ∀ c ∈ pend', c ∈ pend) (listed : Array Bool) (a : Act) (w : World),
    wpAnyR P md ops Q pend fuel listed a w → wpAnyR P md ops Q pend' fuel listed a w
  | 0, _, _, _, _, _, _, h => by simpa only [wpAnyR] using h
  | fuel + 1, _, _, hs, _, _, _, h => by
    simp only [wpAnyR] at h ⊢
    exact ⟨h.1, fun j hj => wpOp_mono (fun a' w' h' => ⟨fun c hc => h'.1 c (rest_sub hs c hc), wpAnyR_sub fuel (rest_sub hs) _ a' w' h'.2⟩) (h.2 j hj)⟩

theorem YieldsAt.wpOp' {i : Nat} {o : Oper} {v : Value} {a : Act} {w : World} (hi : ops[i]? = some o) (hy : YieldsAt P ops w o v a)
    {K : Act → World → Prop} (h : K (a.put o.dst v) w) : wpOp P ops NoQ i K a w := by
  have : Go.stOp P ops w i (fun a' => K a' w) a := hy.stOp hi h
  exact wpOp_of_stOp (fun a' h => h) this

/-- One operation 'oj', apart from 'oi', which yields its value in this state: 'oj' may be carried out without it. -/
theorem wpOp_put' {j : Nat} {oi oj : Oper} {v : Value} (hj : ops[j]? = some oj) (hap : oi.apart ops oj = true)
    (hsj : ∀ cs b, oj.op ≠ .select cs b) {K : Act → World → Prop} {a : Act} {w : World}
    (h : wpOp P ops NoQ j K (a.put oi.dst v) w) :
    wpOp P ops NoQ j (fun a' w' => K (a'.put oi.dst v) w') a w := by
  obtain ⟨h1, h2, h3⟩ := Oper.apart_spec hap
  unfold wpOp at *
  simp only [hj] at *
  rw [wanted_put oj a oi.dst v h1] at h
  split
  · rename_i hw
    simp only [hw, if_true] at h
    rcases h with h | ⟨_, _, _, hf⟩
    case inr => exact hf.elim
    refine .inl ?_
    unfold Oper.wp at *
    rw [execOp_put oj hsj a oi.dst v h1] at h
    generalize (execOp a.eval oj).run P w = r at *
    cases r with
    | ok n w' =>
      cases n <;> simp only [Oper.upon] at h ⊢
      case value u => rw [← Act.put_comm a v u h2]; exact h
      case skip => rw [← Act.put_comm a v undef h2]; exact h
      case defer d =>
        rw [← Act.put_comm _ v undef h2, ← Act.put_defers]
        exact h
      case enter f args =>
        refine Calls.mono h fun e w'' he => ?_
        cases e with
        | returned u => show K _ _; rw [← Act.put_comm a v u h2]; exact he
        | panicked c => exact he
        | outgrown => exact he
      case row row args => exact Rows.mono h fun u w'' he => by rw [← Act.put_comm a v u h2]; exact he
    | halt x w' =>
      cases x <;> simp only [Oper.upon] at h ⊢ <;> exact h
  · rename_i hw
    simp only [hw] at h
    rw [← Act.put_comm a v undef h2]; exact h

/-- The younger operation's slot is none that the elder one looks at or writes. -/
def half (ops : Array Oper) (oi oc : Oper) : Bool := match oi.dst with | some d => !(oc.looksAt ops).contains d && oc.dst != some d | none => true
theorem half_spec {oi oc : Oper} (h : half ops oi oc = true) : (∀ d, oi.dst = some d → d ∉ oc.looksAt ops) ∧ (∀ d, oi.dst = some d → oc.dst ≠ some d) := by
  refine ⟨fun d hd => ?_, fun d hd => ?_⟩ <;> simp [half, hd] at h
  · exact h.1
  · exact h.2

theorem put_get_ne {a : Act} {x : Option Tmp} {v : Value} {d : Tmp} (h : ∀ e, x = some e → e ≠ d) : (a.put x v).tmps[d]? = a.tmps[d]? := by
  cases x with
  | none => rfl
  | some e => simp [Act.put, Array.getElem?_setIfInBounds_ne (h e rfl)]

/-- Redo of an elder operation does not hang on a younger one's slot. -/
theorem Redo.of_put {c : Nat} {oc oi : Oper} {v : Value} {a : Act} {w : World} (hc : ops[c]? = some oc) (hap : half ops oi oc = true)
    (hsc : ∀ cs b, oc.op ≠ .select cs b) (h : Redo P ops c (a.put oi.dst v) w) : Redo P ops c a w := by
  obtain ⟨h1, h2⟩ := half_spec hap
  obtain ⟨o, u, ho, hy, hd⟩ := h
  have : o = oc := Option.some.inj (ho.symm.trans hc)
  subst this
  refine ⟨o, u, ho, hy.of_same (execOp_put o hsc a oi.dst v h1).symm (wanted_put o a oi.dst v h1).symm, fun d hdd x hx => hd d hdd x ?_⟩
  rw [put_get_ne (fun e he hed => h2 e he (by rw [hdd, hed]))]
  exact hx

/-- An operation looks at no slot of its own. -/
def own (ops : Array Oper) (o : Oper) : Bool := match o.dst with | some d => !(o.looksAt ops).contains d | none => true

theorem Redo.back {i : Nat} {oi : Oper} {v : Value} {a : Act} {w : World} (hi : ops[i]? = some oi) (hown : own ops oi = true)
    (hsi : ∀ cs b, oi.op ≠ .select cs b) (h : Redo P ops i (a.put oi.dst v) w) : ∃ u, YieldsAt P ops w oi u a ∧ a.put oi.dst u = a.put oi.dst v := by
  obtain ⟨o, u, ho, hy, hd⟩ := h
  have : o = oi := Option.some.inj (ho.symm.trans hi)
  subst this
  have hl : ∀ d, o.dst = some d → d ∉ o.looksAt ops := fun d hdd => by simp [own, hdd] at hown; exact hown
  refine ⟨u, hy.of_same (execOp_put o hsi a o.dst v hl).symm (wanted_put o a o.dst v hl).symm, ?_⟩
  cases hdst : o.dst with
  | none => rfl
  | some d =>
    by_cases hlt : d < a.tmps.size
    · have := hd d hdst v (by rw [hdst]; simp [Act.put, hlt])
      rw [this]
    · simp only [Act.put]
      congr 1
      simp [Array.setIfInBounds, hlt]

theorem Redo.put {c : Nat} {oc oi : Oper} {v : Value} {a : Act} {w : World} (hc : ops[c]? = some oc) (hap : half ops oi oc = true)
    (hsc : ∀ cs b, oc.op ≠ .select cs b) (h : Redo P ops c a w) : Redo P ops c (a.put oi.dst v) w := by
  obtain ⟨h1, h2⟩ := half_spec hap
  obtain ⟨o, u, ho, hy, hd⟩ := h
  have : o = oc := Option.some.inj (ho.symm.trans hc)
  subst this
  exact ⟨o, u, ho, hy.of_same (execOp_put o hsc a oi.dst v h1) (wanted_put o a oi.dst v h1), fun d hdd x hx => hd d hdd x (by rw [put_get_ne (fun e he hed => h2 e he (by rw [hdd, hed]))] at hx; exact hx)⟩

/-- **A read-only operation that may come up now may be taken first**, if every active operation behind it gives it anew. -/
theorem wpAnyR_first {Q : Act → World → Prop} {i : Nat} {oi : Oper} (hi : ops[i]? = some oi) (hsel : ∀ (j : Nat) (o : Oper) cs b, ops[j]? = some o → o.op ≠ .select cs b)
    (hown : own ops oi = true) :
    ∀ (fuel : Nat) (pend : List Nat) (listed : Array Bool) (a : Act) (w : World) (v : Value), Closed md ops listed →
      (∀ j oj, ops[j]? = some oj → j ≠ i → listed.getD j true = false → (∀ e ∈ oj.after, Region.binds md e = true → e.on ≠ i) → oi.apart ops oj = true) →
      (∀ c ∈ pend, ∃ oc, ops[c]? = some oc ∧ half ops oi oc = true) →
      i ∈ Region.ready md ops listed → YieldsAt P ops w oi v a →
      wpAnyR P md ops Q (i :: pend) fuel (listed.setIfInBounds i true) (a.put oi.dst v) w → (∀ c ∈ pend, Redo P ops c a w) → wpAnyR P md ops Q pend (fuel + 1) listed a w := by
  have same : ∀ (fuel : Nat) (pend : List Nat) (listed : Array Bool) (a : Act) (w : World) (v : Value), (∀ c ∈ pend, ∃ oc, ops[c]? = some oc ∧ half ops oi oc = true) →
      YieldsAt P ops w oi v a → wpAnyR P md ops Q (i :: pend) fuel (listed.setIfInBounds i true) (a.put oi.dst v) w → (∀ c ∈ pend, Redo P ops c a w) →
      wpOp P ops NoQ i (fun a' w' => (∀ c ∈ rest md ops i pend, Redo P ops c a' w') ∧ wpAnyR P md ops Q (rest md ops i pend) fuel (listed.setIfInBounds i true) a' w') a w := by
    intro fuel pend listed a w v hp hy H hre
    refine YieldsAt.wpOp' hi hy ⟨fun c hc => ?_, wpAnyR_sub _ (fun c hc => List.mem_cons_of_mem _ (rest_mem hc)) _ _ _ H⟩
    obtain ⟨oc, hoc, hap⟩ := hp c (rest_mem hc)
    exact (hre c (rest_mem hc)).put hoc hap (fun cs b => hsel c oc cs b hoc)
  intro fuel
  induction fuel with
  | zero =>
    intro pend listed a w v hcl _ hp hr hy H hre
    rw [wpAnyR]
    refine ⟨fun h => (by rw [h] at hr; cases hr), fun j hj => ?_⟩
    by_cases hji : j = i
    · subst hji; exact same _ _ _ _ _ _ hp hy H hre
    · have := ready_mono hj hji
      rw [wpAnyR] at H
      rw [H.1] at this
      cases this
  | succ fuel ih =>
    intro pend listed a w v hcl hfree hp hr hy H hre
    rw [wpAnyR]
    refine ⟨fun h => (by rw [h] at hr; cases hr), fun j hj => ?_⟩
    by_cases hji : j = i
    · subst hji; exact same _ _ _ _ _ _ hp hy H hre
    · rw [wpAnyR] at H
      have h1 := H.2 j (ready_mono hj hji)
      obtain ⟨hjun, oj, hoj, hall⟩ := mem_ready.1 hj
      have hiun : listed.getD i false = false := getD_both' (mem_ready.1 hr).1
      have hnot : ∀ e ∈ oj.after, Region.binds md e = true → e.on ≠ i := fun e he hb heq => by
        have h1 := hall e he hb
        rw [heq, hiun] at h1; cases h1
      have hanc : anc md ops ops.size j i = false := hcl.anc hiun _ j (.inr hj)
      have hcons : rest md ops j (i :: pend) = i :: rest md ops j pend := by simp [rest, hanc]
      have h2 := wpOp_put' hoj (hfree j oj hoj hji hjun hnot) (fun cs b => hsel j oj cs b hoj) h1
      have hfree' : ∀ k ok, ops[k]? = some ok → k ≠ i → (listed.setIfInBounds j true).getD k true = false →
          (∀ e ∈ ok.after, Region.binds md e = true → e.on ≠ i) → oi.apart ops ok = true := fun k ok hk hki hun hno => by
        refine hfree k ok hk hki ?_ hno
        by_cases hjk : j = k
        · subst hjk; exact hjun
        · rw [getD_set_ne true hjk] at hun; exact hun
      refine wpOp_mono (fun a' w' h3 => ?_) h2
      obtain ⟨h3, h4⟩ := h3
      rw [hcons] at h3 h4
      obtain ⟨u, hyu, hu⟩ := Redo.back hi hown (fun cs b => hsel i oi cs b hi) (h3 i (List.mem_cons_self ..))
      have hre' : ∀ c ∈ rest md ops j pend, Redo P ops c a' w' := fun c hc => by
        obtain ⟨oc, hoc, hap⟩ := hp c (rest_mem hc)
        exact Redo.of_put hoc hap (fun cs b => hsel c oc cs b hoc) (h3 c (List.mem_cons_of_mem _ hc))
      refine ⟨hre', ih _ (listed.setIfInBounds j true) a' w' u (hcl.set hj) hfree' (fun c hc => hp c (rest_mem hc)) (ready_mono hr (Ne.symm hji)) hyu ?_ hre'⟩
      rw [Array.setIfInBounds_comm _ _ hji, hu]
      exact h4

/-- The same, carried out again: the frame is as it was. -/
def wpChk (P : Program) (ops : Array Oper) : List Nat → Act → World → Prop
  | [], _, _ => True
  | c :: r, a, w => qOp P ops (fun w' => w' = w) c (fun a' => a' = a) a ∧ wpChk P ops r a w

/-- THE PLAN: (false, i, _): a read-only operation; (true, k, l): an active one, behind which those of l are given anew. -/
def wpPlan (P : Program) (ops : Array Oper) (Q : Act → World → Prop) : List (Bool × Nat × List Nat) → Act → World → Prop
  | [], a, w => Q a w
  | (false, i, _) :: r, a, w => qOp P ops (fun w' => w' = w) i (fun a' => wpPlan P ops Q r a' w) a
  | (true, k, l) :: r, a, w => wpOp P ops NoQ k (fun a' w' => wpChk P ops l a' w' ∧ wpPlan P ops Q r a' w') a w

def planOk (md : Region.Mode) (ops : Array Oper) : List Nat → Array Bool → List (Bool × Nat × List Nat) → Bool
  | _, listed, [] => (Region.ready md ops listed).isEmpty
  | pend, listed, (false, i, _) :: r => (Region.ready md ops listed).contains i && Region.free md ops listed i &&
      (match ops[i]? with | some oi => own ops oi && pend.all (fun c => match ops[c]? with | some oc => half ops oi oc | none => false) | none => false) &&
      planOk md ops (i :: pend) (listed.setIfInBounds i true) r
  | pend, listed, (true, k, l) :: r => Region.ready md ops listed == [k] && (rest md ops k pend).all (fun c => l.contains c) &&
      planOk md ops (rest md ops k pend) (listed.setIfInBounds k true) r

def planB (md : Region.Mode) (ops : Array Oper) (plan : List (Bool × Nat × List Nat)) : Bool :=
  Region.noSelect ops && plan.length == ops.size && planOk md ops [] (Array.replicate ops.size false) plan

theorem yieldsAt_of_quietAt {o : Oper} {a : Act} {w : World} {v : Value} (hw : Region.wanted o (yielded ops a.tmps) = true) (h : o.quietAt P a (fun w' => w' = w) w v) : YieldsAt P ops w o v a := by
  refine .inl ⟨hw, ?_⟩
  unfold Oper.quietAt at h
  generalize hr : (execOp a.eval o).run P w = r at h
  cases r with
  | ok n w' =>
    cases n <;> simp only [Oper.quietUpon] at h
    case value u => obtain ⟨rfl, rfl⟩ := h; exact .inl rfl
    case skip => obtain ⟨rfl, rfl⟩ := h; exact .inr (.inl ⟨rfl, rfl⟩)
    case enter f args => obtain ⟨rfl, h⟩ := h; exact .inr (.inr ⟨f, args, rfl, h⟩)
  | halt x w' => simp only [Oper.quietUpon] at h

theorem yieldsAt_of_qOp {i : Nat} {o : Oper} {a : Act} {w : World} {K : Act → Prop} (hi : ops[i]? = some o) (h : qOp P ops (fun w' => w' = w) i K a) : ∃ v, YieldsAt P ops w o v a ∧ K (a.put o.dst v) := by
  unfold qOp at h
  simp only [hi] at h
  by_cases hw : Region.wanted o (yielded ops a.tmps) = true
  · simp only [hw, if_true] at h
    obtain ⟨v, h1, h2⟩ := h
    exact ⟨v, yieldsAt_of_quietAt hw (h1 w rfl), h2⟩
  · simp only [hw] at h
    exact ⟨undef, .inr ⟨by simpa using hw, rfl⟩, h⟩

theorem slot_of_put {a : Act} {dst : Option Tmp} {v : Value} (h : a.put dst v = a) : ∀ d, dst = some d → ∀ x, a.tmps[d]? = some x → x = v := by
  intro d hd x hx
  subst hd
  have hlt : d < a.tmps.size := (Array.getElem?_eq_some_iff.1 hx).1
  have : (a.put (some d) v).tmps[d]? = some x := by rw [h]; exact hx
  simp [Act.put, hlt] at this
  exact this.symm

theorem redo_of_chk : ∀ (l : List Nat) {a : Act} {w : World}, wpChk P ops l a w → ∀ c ∈ l, (∃ o, ops[c]? = some o) → Redo P ops c a w
  | [], _, _, _, c, hc, _ => by cases hc
  | c0 :: r, a, w, h, c, hc, ho => by
    rcases List.mem_cons.1 hc with rfl | hc
    · obtain ⟨o, ho⟩ := ho
      obtain ⟨v, hy, hv⟩ := yieldsAt_of_qOp ho h.1
      exact ⟨o, v, ho, hy, slot_of_put hv⟩
    · exact redo_of_chk r h.2 c hc ho

theorem YieldsAt.redo {i : Nat} {o : Oper} {v : Value} {a : Act} {w : World} (hi : ops[i]? = some o) (hown : own ops o = true) (hsi : ∀ cs b, o.op ≠ .select cs b) (hy : YieldsAt P ops w o v a) : Redo P ops i (a.put o.dst v) w := by
  have hl : ∀ d, o.dst = some d → d ∉ o.looksAt ops := fun d hdd => by simp [own, hdd] at hown; exact hown
  refine ⟨o, v, hi, hy.of_same (execOp_put o hsi a o.dst v hl) (wanted_put o a o.dst v hl), fun d hd x hx => ?_⟩
  rw [hd] at hx
  simp only [Act.put] at hx
  by_cases hlt : d < a.tmps.size
  · simp [hlt] at hx; exact hx.symm
  · simp [hlt] at hx

theorem wpAnyR_plan {Q : Act → World → Prop} (hsel : ∀ (j : Nat) (o : Oper) cs b, ops[j]? = some o → o.op ≠ .select cs b) : ∀ (plan : List (Bool × Nat × List Nat)) (pend : List Nat) (listed : Array Bool) (a : Act) (w : World),
    Closed md ops listed → (∀ c ∈ pend, ∃ o, ops[c]? = some o) → (∀ c ∈ pend, Redo P ops c a w) → planOk md ops pend listed plan = true → wpPlan P ops Q plan a w → wpAnyR P md ops Q pend plan.length listed a w
  | [], pend, listed, a, w, _, _, _, hB, h => by
    rw [List.length_nil, wpAnyR]
    exact ⟨by simpa [planOk] using hB, h⟩
  | (false, i, l) :: r, pend, listed, a, w, hcl, hin, hre, hB, h => by
    simp only [planOk, Bool.and_eq_true] at hB
    obtain ⟨⟨⟨hr, hf⟩, ho⟩, hB'⟩ := hB
    have hr' : i ∈ Region.ready md ops listed := by simpa using hr
    obtain ⟨_, oi, hoi, _⟩ := mem_ready.1 hr'
    simp only [hoi, Bool.and_eq_true, List.all_eq_true] at ho
    obtain ⟨hown, hap⟩ := ho
    have hp : ∀ c ∈ pend, ∃ oc, ops[c]? = some oc ∧ half ops oi oc = true := fun c hc => by
      obtain ⟨oc, hoc⟩ := hin c hc
      have := hap c hc
      simp only [hoc] at this
      exact ⟨oc, hoc, this⟩
    rw [wpPlan] at h
    obtain ⟨v, hy, hK⟩ := yieldsAt_of_qOp hoi h
    refine wpAnyR_first hoi hsel hown r.length pend listed a w v hcl (Region.free_spec hoi hf) hp hr' hy ?_ hre
    refine wpAnyR_plan hsel r (i :: pend) _ _ w (hcl.set hr') (fun c hc => ?_) (fun c hc => ?_) hB' hK
    · rcases List.mem_cons.1 hc with rfl | hc
      · exact ⟨oi, hoi⟩
      · exact hin c hc
    · rcases List.mem_cons.1 hc with rfl | hc
      · exact YieldsAt.redo hoi hown (fun cs b => hsel c oi cs b hoi) hy
      · obtain ⟨oc, hoc, hapc⟩ := hp c hc
        exact (hre c hc).put hoc hapc (fun cs b => hsel c oc cs b hoc)
  | (true, k, l) :: r, pend, listed, a, w, hcl, hin, hre, hB, h => by
    simp only [planOk, Bool.and_eq_true, beq_iff_eq, List.all_eq_true, List.contains_iff_mem] at hB
    obtain ⟨⟨hr, hl⟩, hB'⟩ := hB
    have hr' : k ∈ Region.ready md ops listed := by rw [hr]; exact List.mem_cons_self ..
    rw [List.length_cons, wpAnyR]
    refine ⟨fun h => (by rw [h] at hr'; cases hr'), fun j hj => ?_⟩
    rw [hr] at hj
    obtain rfl : j = k := by simpa using hj
    rw [wpPlan] at h
    refine wpOp_mono (fun a' w' h' => ?_) h
    have hre' : ∀ c ∈ rest md ops j pend, Redo P ops c a' w' := fun c hc => redo_of_chk l h'.1 c (hl c hc) (hin c (rest_mem hc))
    exact ⟨hre', wpAnyR_plan hsel r _ _ a' w' (hcl.set hr') (fun c hc => hin c (rest_mem hc)) hre' hB' h'.2⟩

theorem rep_false (m j : Nat) : (Array.replicate m false).getD j false = false := by
  rcases Nat.lt_or_ge j m with h | h
  · simp [h]
  · simp [h]

/-- **A REGION THAT DRAWS ITS ORDER, WALKED ONCE, BY A PLAN.** -/
theorem wp_region_plan {id : Nat} {Q : Exit → Act → World → Prop} {a : Act} {w : World} {l : List Oper} (plan : List (Bool × Nat × List Nat)) (hm : P.follows .mixedOrders = true) (hB : planB .any l.toArray plan = true)
    (h : wpPlan P l.toArray (Q .normal) plan a w.drew) : (Code.region id l.toArray true).wp P Q a w := by
  simp only [planB, Bool.and_eq_true, beq_iff_eq] at hB
  obtain ⟨⟨hs, hlen⟩, hB⟩ := hB
  refine wp_region_any hm (wpAny_of_R (Q := Q .normal) (fun _ _ h => h) _ [] _ _ _ ?_)
  have := wpAnyR_plan (md := .any) (Region.noSelect_spec hs) plan [] (Array.replicate l.toArray.size false) a w.drew
    (fun j oj hj hl => by rw [rep_false] at hl; cases hl) (fun c hc => by cases hc) (fun c hc => by cases hc) hB h
  rw [hlen] at this
  exact this

/-- One step of the plan that only reads: as one operation of a quiet walk. -/
theorem plan_st {ops : List Oper} {Q : Act → World → Prop} {i : Nat} {lc : List Nat} {r : List (Bool × Nat × List Nat)} {o : Oper} {a : Act} {w : World} (hi : ops[i]? = some o)
    (h : wpQuiet P ops.toArray (fun w' => w' = w) (fun a' => wpPlan P ops.toArray Q r a' w) [o] a) : wpPlan P ops.toArray Q ((false, i, lc) :: r) a w := by
  rw [wpPlan]; unfold qOp; simp only [List.getElem?_toArray, hi]
  exact h

/-- Behind an active step. -/
def PlanQ (P : Program) (ops : Array Oper) (Q : Act → World → Prop) (l : List Nat) (r : List (Bool × Nat × List Nat)) : Exit → Act → World → Prop
  | .normal, a, w => wpChk P ops l a w ∧ wpPlan P ops Q r a w
  | _, _, _ => False

theorem planQ_mk {Q : Act → World → Prop} {l : List Nat} {r : List (Bool × Nat × List Nat)} {a : Act} {w : World} (h1 : wpChk P ops l a w) (h2 : wpPlan P ops Q r a w) : PlanQ P ops Q l r .normal a w := ⟨h1, h2⟩

/-- An active step: as a list of one operation. -/
theorem plan_ac {ops : List Oper} {Q : Act → World → Prop} {k : Nat} {l : List Nat} {r : List (Bool × Nat × List Nat)} {o : Oper} {a : Act} {w : World} (hi : ops[k]? = some o)
    (h : wpList P ops.toArray (PlanQ P ops.toArray Q l r) [o] a w) : wpPlan P ops.toArray Q ((true, k, l) :: r) a w := by
  rw [wpPlan]; unfold wpOp; simp only [List.getElem?_toArray, hi]
  unfold wpList at h
  split
  · rename_i hw
    rw [if_pos hw] at h
    have key : ∀ {K : Act → World → Prop} , o.wp P a w K (PlanQ P ops.toArray Q l r) → o.wp P a w K NoQ := by
      intro K h
      unfold Oper.wp at *
      generalize (execOp a.eval o).run P w = r at *
      cases r with
      | ok n w' =>
        cases n <;> simp only [Oper.upon] at h ⊢ <;> first
          | exact h
          | exact Calls.mono h (fun e w'' he => by cases e with
              | returned v => exact he
              | panicked c => exact he.elim
              | outgrown => exact he.elim fun _ ⟨_, hf⟩ => hf.elim)
      | halt x w' => cases x <;> simp only [Oper.upon] at h ⊢ <;> exact h.elim
    rcases h with h | ⟨_, _, _, hf⟩
    · exact .inl (key h)
    · exact hf.elim
  · rename_i hw
    rw [if_neg hw] at h
    exact h

/-- A region that only reads: one walk in the order of the text, in one world. -/
theorem wp_region_reads {id : Nat} {Q : Exit → Act → World → Prop} {a : Act} {w : World} {l : List Oper} (hm : P.follows .mixedOrders = true) (hB : Region.lexB .any l.toArray = true)
    (h : wpQuiet P l.toArray (fun w' => w' = w.drew) (fun a' => Q .normal a' w.drew) l a) : (Code.region id l.toArray true).wp P Q a w := by
  refine wp_region_quiet (C := fun w' => w' = w.drew) hm hB rfl ?_
  have key : ∀ (l' : List Oper) (a : Act), wpQuiet P l.toArray (fun w' => w' = w.drew) (fun a' => Q .normal a' w.drew) l' a →
      wpQuiet P l.toArray (fun w' => w' = w.drew) (fun a' => ∀ w', w' = w.drew → Q .normal a' w') l' a := by
    intro l'
    induction l' with
    | nil => intro a h w' hw; subst hw; exact h
    | cons o rest ih =>
      intro a h
      unfold wpQuiet at h ⊢
      split
      · rename_i hw; rw [if_pos hw] at h; exact Oper.quiet_mono ih h
      · rename_i hw; rw [if_neg hw] at h; exact ih _ h
  exact key l a h

theorem plan_end {Q : Act → World → Prop} {a : Act} {w : World} (h : Q a w) : wpPlan P ops Q [] a w := h
theorem chk_end {a : Act} {w : World} : wpChk P ops [] a w := trivial
theorem chk_st {ops : List Oper} {c : Nat} {r : List Nat} {o : Oper} {a : Act} {w : World} (hi : ops[c]? = some o)
    (h : wpQuiet P ops.toArray (fun w' => w' = w) (fun a' => a' = a) [o] a) (h2 : wpChk P ops.toArray r a w) : wpChk P ops.toArray (c :: r) a w := by
  refine ⟨?_, h2⟩
  unfold qOp; simp only [List.getElem?_toArray, hi]
  exact h
end
#print axioms wp_region_plan
#print axioms plan_ac
#print axioms chk_st
end Go.Proofs.Plan

namespace Go.Proofs.Plan
section
variable {P : Program} {ops : Array Oper} {md : Region.Mode}

theorem anc_mono : ∀ (n m j i : Nat), n ≤ m → anc md ops n j i = true → anc md ops m j i = true
  | 0, _, _, _, _, h => by simp [Plan.anc] at h
  | n + 1, 0, _, _, hm, _ => by omega
  | n + 1, m + 1, j, i, hm, h => by
    unfold Plan.anc at h ⊢
    split at h
    · rename_i oj hoj
      rw [Array.any_eq_true'] at h ⊢
      obtain ⟨e, he, h⟩ := h
      refine ⟨e, he, ?_⟩
      simp only [Bool.and_eq_true, Bool.or_eq_true, beq_iff_eq] at h ⊢
      exact ⟨h.1, h.2.imp id (anc_mono n m _ _ (by omega))⟩
    · cases h

/-- By short ways first. -/
def ancd (md : Region.Mode) (ops : Array Oper) (k c : Nat) : Bool :=
  anc md ops (min 1 ops.size) k c || anc md ops (min 2 ops.size) k c || anc md ops (min 3 ops.size) k c || anc md ops (min 5 ops.size) k c || anc md ops ops.size k c

theorem ancd_spec {k c : Nat} (h : ancd md ops k c = true) : anc md ops ops.size k c = true := by
  simp only [ancd, Bool.or_eq_true] at h
  rcases h with (((h | h) | h) | h) | h
  · exact anc_mono _ _ _ _ (Nat.min_le_right ..) h
  · exact anc_mono _ _ _ _ (Nat.min_le_right ..) h
  · exact anc_mono _ _ _ _ (Nat.min_le_right ..) h
  · exact anc_mono _ _ _ _ (Nat.min_le_right ..) h
  · exact h

def planOk2 (md : Region.Mode) (ops : Array Oper) : List Nat → Array Bool → List (Bool × Nat × List Nat) → Bool
  | _, listed, [] => (Region.ready md ops listed).isEmpty
  | pend, listed, (false, i, _) :: r => (Region.ready md ops listed).contains i && Region.free md ops listed i &&
      (match ops[i]? with | some oi => own ops oi && pend.all (fun c => match ops[c]? with | some oc => half ops oi oc | none => false) | none => false) &&
      planOk2 md ops (i :: pend) (listed.setIfInBounds i true) r
  | pend, listed, (true, k, l) :: r => Region.ready md ops listed == [k] && pend.all (fun c => l.contains c || ancd md ops k c) && l.all (fun c => decide (c < ops.size)) &&
      planOk2 md ops l (listed.setIfInBounds k true) r

def planB2 (md : Region.Mode) (ops : Array Oper) (plan : List (Bool × Nat × List Nat)) : Bool :=
  Region.noSelect ops && plan.length == ops.size && planOk2 md ops [] (Array.replicate ops.size false) plan

theorem wpAnyR_plan2 {Q : Act → World → Prop} (hsel : ∀ (j : Nat) (o : Oper) cs b, ops[j]? = some o → o.op ≠ .select cs b) : ∀ (plan : List (Bool × Nat × List Nat)) (pend : List Nat) (listed : Array Bool) (a : Act) (w : World),
    Closed md ops listed → (∀ c ∈ pend, ∃ o, ops[c]? = some o) → (∀ c ∈ pend, Redo P ops c a w) → planOk2 md ops pend listed plan = true → wpPlan P ops Q plan a w → wpAnyR P md ops Q pend plan.length listed a w
  | [], pend, listed, a, w, _, _, _, hB, h => by
    rw [List.length_nil, wpAnyR]
    exact ⟨by simpa [planOk2] using hB, h⟩
  | (false, i, l) :: r, pend, listed, a, w, hcl, hin, hre, hB, h => by
    simp only [planOk2, Bool.and_eq_true] at hB
    obtain ⟨⟨⟨hr, hf⟩, ho⟩, hB'⟩ := hB
    have hr' : i ∈ Region.ready md ops listed := by simpa using hr
    obtain ⟨_, oi, hoi, _⟩ := mem_ready.1 hr'
    simp only [hoi, Bool.and_eq_true, List.all_eq_true] at ho
    obtain ⟨hown, hap⟩ := ho
    have hp : ∀ c ∈ pend, ∃ oc, ops[c]? = some oc ∧ half ops oi oc = true := fun c hc => by
      obtain ⟨oc, hoc⟩ := hin c hc
      have := hap c hc
      simp only [hoc] at this
      exact ⟨oc, hoc, this⟩
    rw [wpPlan] at h
    obtain ⟨v, hy, hK⟩ := yieldsAt_of_qOp hoi h
    refine wpAnyR_first hoi hsel hown r.length pend listed a w v hcl (Region.free_spec hoi hf) hp hr' hy ?_ hre
    refine wpAnyR_plan2 hsel r (i :: pend) _ _ w (hcl.set hr') (fun c hc => ?_) (fun c hc => ?_) hB' hK
    · rcases List.mem_cons.1 hc with rfl | hc
      · exact ⟨oi, hoi⟩
      · exact hin c hc
    · rcases List.mem_cons.1 hc with rfl | hc
      · exact YieldsAt.redo hoi hown (fun cs b => hsel c oi cs b hoi) hy
      · obtain ⟨oc, hoc, hapc⟩ := hp c hc
        exact (hre c hc).put hoc hapc (fun cs b => hsel c oc cs b hoc)
  | (true, k, l) :: r, pend, listed, a, w, hcl, hin, hre, hB, h => by
    simp only [planOk2, Bool.and_eq_true, beq_iff_eq, List.all_eq_true, List.contains_iff_mem, Bool.or_eq_true, decide_eq_true_eq] at hB
    obtain ⟨⟨⟨hr, hl⟩, hlt⟩, hB'⟩ := hB
    have hr' : k ∈ Region.ready md ops listed := by rw [hr]; exact List.mem_cons_self ..
    rw [List.length_cons, wpAnyR]
    refine ⟨fun h => (by rw [h] at hr'; cases hr'), fun j hj => ?_⟩
    rw [hr] at hj
    obtain rfl : j = k := by simpa using hj
    rw [wpPlan] at h
    refine wpOp_mono (fun a' w' h' => ?_) h
    have hsub : ∀ c ∈ rest md ops j pend, c ∈ l := fun c hc => by
      rw [rest, List.mem_filter] at hc
      rcases hl c hc.1 with e | e
      · exact e
      · have := hc.2; rw [ancd_spec e] at this; cases this
    have hinl : ∀ c ∈ l, ∃ o, ops[c]? = some o := fun c hc => ⟨_, Array.getElem?_eq_getElem (hlt c hc)⟩
    have hrel : ∀ c ∈ l, Redo P ops c a' w' := fun c hc => redo_of_chk l h'.1 c hc (hinl c hc)
    exact ⟨fun c hc => hrel c (hsub c hc), wpAnyR_sub _ hsub _ _ _ (wpAnyR_plan2 hsel r _ _ a' w' (hcl.set hr') hinl hrel hB' h'.2)⟩

/-- **A REGION THAT DRAWS ITS ORDER, WALKED ONCE, BY A PLAN**: the test is quick. -/
theorem wp_region_plan2 {id : Nat} {Q : Exit → Act → World → Prop} {a : Act} {w : World} {l : List Oper} (plan : List (Bool × Nat × List Nat)) (hm : P.follows .mixedOrders = true) (hB : planB2 .any l.toArray plan = true)
    (h : wpPlan P l.toArray (Q .normal) plan a w.drew) : (Code.region id l.toArray true).wp P Q a w := by
  simp only [planB2, Bool.and_eq_true, beq_iff_eq] at hB
  obtain ⟨⟨hs, hlen⟩, hB⟩ := hB
  refine wp_region_any hm (wpAny_of_R (Q := Q .normal) (fun _ _ h => h) _ [] _ _ _ ?_)
  have := wpAnyR_plan2 (md := .any) (Region.noSelect_spec hs) plan [] (Array.replicate l.toArray.size false) a w.drew
    (fun j oj hj hl => by rw [rep_false] at hl; cases hl) (fun c hc => by cases hc) (fun c hc => by cases hc) hB h
  rw [hlen] at this
  exact this
end
end Go.Proofs.Plan

namespace Go.Proofs.Plan
section
variable {P : Program} {ops : Array Oper}

/-- A box: what is in it isn't unfolded. -/
structure Stop (p : Prop) : Prop where
  out : p
theorem stop_eq (p : Prop) : Stop p = p := propext ⟨fun h => h.out, fun h => ⟨h⟩⟩

theorem wp_region_pl {id : Nat} {Q : Exit → Act → World → Prop} {a : Act} {w : World} {l : List Oper} (plan : List (Bool × Nat × List Nat)) (hm : P.follows .mixedOrders = true) (hB : planB2 .any l.toArray plan = true)
    (h : Stop (wpPlan P l.toArray (Q .normal) plan a w.drew)) : (Code.region id l.toArray true).wp P Q a w := wp_region_plan2 plan hm hB h.out

theorem pl_st {ops : List Oper} {Q : Act → World → Prop} {i : Nat} {lc : List Nat} {r : List (Bool × Nat × List Nat)} {o : Oper} {a : Act} {w : World} (hi : ops[i]? = some o)
    (h : wpQuiet P ops.toArray (fun w' => w' = w) (fun a' => Stop (wpPlan P ops.toArray Q r a' w)) [o] a) : Stop (wpPlan P ops.toArray Q ((false, i, lc) :: r) a w) :=
  ⟨plan_st hi (by simpa only [stop_eq] using h)⟩

/-- Behind an active step. -/
def PlQ (P : Program) (ops : Array Oper) (Q : Act → World → Prop) (l : List Nat) (r : List (Bool × Nat × List Nat)) : Exit → Act → World → Prop
  | .normal, a, w => wpChk P ops l a w ∧ Stop (wpPlan P ops Q r a w)
  | _, _, _ => False

theorem plQ_eq (Q : Act → World → Prop) (l : List Nat) (r : List (Bool × Nat × List Nat)) : PlQ P ops Q l r = PlanQ P ops Q l r := by
  funext e a w
  cases e <;> simp [PlQ, PlanQ, stop_eq]

theorem plQ_mk {Q : Act → World → Prop} {l : List Nat} {r : List (Bool × Nat × List Nat)} {a : Act} {w : World} (h1 : wpChk P ops l a w) (h2 : Stop (wpPlan P ops Q r a w)) : PlQ P ops Q l r .normal a w := ⟨h1, h2⟩

theorem pl_ac {ops : List Oper} {Q : Act → World → Prop} {k : Nat} {l : List Nat} {r : List (Bool × Nat × List Nat)} {o : Oper} {a : Act} {w : World} (hi : ops[k]? = some o)
    (h : wpList P ops.toArray (PlQ P ops.toArray Q l r) [o] a w) : Stop (wpPlan P ops.toArray Q ((true, k, l) :: r) a w) :=
  ⟨plan_ac hi (by rwa [plQ_eq] at h)⟩

theorem pl_end {Q : Act → World → Prop} {a : Act} {w : World} (h : Q a w) : Stop (wpPlan P ops Q [] a w) := ⟨plan_end h⟩
end
end Go.Proofs.Plan

namespace Go.Proofs.Plan
section
variable {P : Program} {ops : Array Oper} {md : Region.Mode}

/-- What an operation waits for itself. -/
def succs (md : Region.Mode) (ops : Array Oper) (i : Nat) : List Nat := match ops[i]? with | some o => (o.after.toList.filter (fun e => Region.binds md e)).map (·.on) | none => []
def reachD (md : Region.Mode) (ops : Array Oper) : Nat → List Nat → List Nat
  | 0, m => m
  | i + 1, m => reachD md ops i (if m.contains i = true then succs md ops i ++ m else m)
def reach (md : Region.Mode) (ops : Array Oper) (k : Nat) : List Nat := reachD md ops k (succs md ops k)

theorem mem_succs {i c : Nat} (h : c ∈ succs md ops i) : ∃ o e, ops[i]? = some o ∧ e ∈ o.after ∧ Region.binds md e = true ∧ e.on = c := by
  unfold succs at h
  split at h
  · rename_i o ho
    obtain ⟨e, he, rfl⟩ := List.mem_map.1 h
    rw [List.mem_filter] at he
    exact ⟨o, e, ho, by simpa using he.1, he.2, rfl⟩
  · cases h
theorem anc_succ {i c : Nat} (h : c ∈ succs md ops i) : anc md ops 1 i c = true := by
  obtain ⟨o, e, ho, he, hb, hc⟩ := mem_succs h
  unfold Plan.anc
  rw [ho]
  simp only
  rw [Array.any_eq_true']
  exact ⟨e, he, by simp [hb, hc]⟩
theorem anc_snoc : ∀ (n k i c : Nat), anc md ops n k i = true → c ∈ succs md ops i → anc md ops (n + 1) k c = true
  | 0, _, _, _, h, _ => by simp [Plan.anc] at h
  | n + 1, k, i, c, h, hc => by
    unfold Plan.anc at h
    split at h
    · rename_i ok hok
      rw [Array.any_eq_true'] at h
      obtain ⟨e, he, h⟩ := h
      simp only [Bool.and_eq_true, Bool.or_eq_true, beq_iff_eq] at h
      unfold Plan.anc
      rw [hok]
      simp only
      rw [Array.any_eq_true']
      refine ⟨e, he, ?_⟩
      simp only [Bool.and_eq_true, Bool.or_eq_true, beq_iff_eq]
      refine ⟨h.1, .inr ?_⟩
      rcases h.2 with e1 | e1
      · subst e1
        exact anc_mono 1 (n + 1) _ _ (by omega) (anc_succ hc)
      · exact anc_snoc n e.on i c e1 hc
    · cases h
theorem reachD_sound {k : Nat} : ∀ (i n : Nat) (m : List Nat), (∀ c ∈ m, anc md ops n k c = true) → ∀ c ∈ reachD md ops i m, anc md ops (n + i) k c = true
  | 0, _, _, h, c, hc => h c hc
  | i + 1, n, m, h, c, hc => by
    rw [reachD] at hc
    have := reachD_sound i (n + 1) (if m.contains i = true then succs md ops i ++ m else m) (fun d hd => by
      split at hd
      · rename_i hi
        rcases List.mem_append.1 hd with h2 | h2
        · exact anc_snoc n k i d (h i (by simpa using hi)) h2
        · exact anc_mono n (n + 1) _ _ (by omega) (h d h2)
      · exact anc_mono n (n + 1) _ _ (by omega) (h d hd)) c hc
    rwa [show n + (i + 1) = n + 1 + i by omega]
theorem reach_ancd {k c : Nat} (hk : k < ops.size) (h : c ∈ reach md ops k) : ancd md ops k c = true := by
  have := reachD_sound (k := k) k 1 (succs md ops k) (fun c hc => anc_succ hc) c h
  unfold ancd
  simp only [Bool.or_eq_true]
  exact .inr (anc_mono _ _ _ _ (by omega) this)

def planOk3 (md : Region.Mode) (ops : Array Oper) : List Nat → Array Bool → List (Bool × Nat × List Nat) → Bool
  | _, listed, [] => (Region.ready md ops listed).isEmpty
  | pend, listed, (false, i, _) :: r => (Region.ready md ops listed).contains i && Region.free md ops listed i &&
      (match ops[i]? with | some oi => own ops oi && pend.all (fun c => match ops[c]? with | some oc => half ops oi oc | none => false) | none => false) &&
      planOk3 md ops (i :: pend) (listed.setIfInBounds i true) r
  | pend, listed, (true, k, l) :: r => Region.ready md ops listed == [k] && decide (k < ops.size) && pend.all (fun c => l.contains c || (reach md ops k).contains c) && l.all (fun c => decide (c < ops.size)) &&
      planOk3 md ops l (listed.setIfInBounds k true) r

theorem planOk3_2 : ∀ (plan : List (Bool × Nat × List Nat)) (pend : List Nat) (listed : Array Bool), planOk3 md ops pend listed plan = true → planOk2 md ops pend listed plan = true
  | [], _, _, h => h
  | (false, i, l) :: r, pend, listed, h => by
    unfold planOk3 at h
    unfold planOk2
    rw [Bool.and_eq_true] at h ⊢
    exact ⟨h.1, planOk3_2 r _ _ h.2⟩
  | (true, k, l) :: r, pend, listed, h => by
    unfold planOk3 at h
    unfold planOk2
    simp only [Bool.and_eq_true] at h ⊢
    obtain ⟨⟨⟨⟨h1, hk⟩, h2⟩, h3⟩, h4⟩ := h
    refine ⟨⟨⟨h1, ?_⟩, h3⟩, planOk3_2 r _ _ h4⟩
    rw [List.all_eq_true] at h2 ⊢
    intro c hc
    have := h2 c hc
    simp only [Bool.or_eq_true] at this ⊢
    rcases this with e | e
    · exact .inl e
    · exact .inr (reach_ancd (of_decide_eq_true hk) (by simpa using e))

def planB3 (md : Region.Mode) (ops : Array Oper) (plan : List (Bool × Nat × List Nat)) : Bool :=
  Region.noSelect ops && plan.length == ops.size && planOk3 md ops [] (Array.replicate ops.size false) plan
theorem planB3_2 {plan : List (Bool × Nat × List Nat)} (h : planB3 md ops plan = true) : planB2 md ops plan = true := by
  unfold planB3 at h
  unfold planB2
  rw [Bool.and_eq_true] at h ⊢
  exact ⟨h.1, planOk3_2 _ _ _ h.2⟩
theorem wp_region_pl3 {id : Nat} {Q : Exit → Act → World → Prop} {a : Act} {w : World} {l : List Oper} (plan : List (Bool × Nat × List Nat)) (hm : P.follows .mixedOrders = true) (hB : planB3 .any l.toArray plan = true)
    (h : Stop (wpPlan P l.toArray (Q .normal) plan a w.drew)) : (Code.region id l.toArray true).wp P Q a w := wp_region_pl plan hm (planB3_2 hB) h
end
end Go.Proofs.Plan

namespace Go.Proofs.Plan
section
variable {P : Program} {ops : Array Oper} {md : Region.Mode}

/-- A plan that may part. -/
inductive Tree where
  | done
  | st (i : Nat) (r : Tree)
  | ac (k : Nat) (l : List Nat) (r : Tree)
  | br (k1 : Nat) (l1 : List Nat) (r1 : Tree) (k2 : Nat) (l2 : List Nat) (r2 : Tree)

def Tree.len : Tree → Nat
  | .done => 0
  | .st _ r => r.len + 1
  | .ac _ _ r => r.len + 1
  | .br _ _ r1 _ _ _ => r1.len + 1

def wpTree (P : Program) (ops : Array Oper) (Q : Act → World → Prop) : Tree → Act → World → Prop
  | .done, a, w => Q a w
  | .st i r, a, w => qOp P ops (fun w' => w' = w) i (fun a' => wpTree P ops Q r a' w) a
  | .ac k l r, a, w => wpOp P ops NoQ k (fun a' w' => wpChk P ops l a' w' ∧ wpTree P ops Q r a' w') a w
  | .br k1 l1 r1 k2 l2 r2, a, w => wpOp P ops NoQ k1 (fun a' w' => wpChk P ops l1 a' w' ∧ wpTree P ops Q r1 a' w') a w ∧ wpOp P ops NoQ k2 (fun a' w' => wpChk P ops l2 a' w' ∧ wpTree P ops Q r2 a' w') a w

def acOk (md : Region.Mode) (ops : Array Oper) (pend : List Nat) (k : Nat) (l : List Nat) : Bool :=
  pend.all (fun c => l.contains c || ancd md ops k c) && l.all (fun c => decide (c < ops.size))

def treeOk (md : Region.Mode) (ops : Array Oper) : List Nat → Array Bool → Tree → Bool
  | _, listed, .done => (Region.ready md ops listed).isEmpty
  | pend, listed, .st i r => (Region.ready md ops listed).contains i && Region.free md ops listed i &&
      (match ops[i]? with | some oi => own ops oi && pend.all (fun c => match ops[c]? with | some oc => half ops oi oc | none => false) | none => false) &&
      treeOk md ops (i :: pend) (listed.setIfInBounds i true) r
  | pend, listed, .ac k l r => Region.ready md ops listed == [k] && acOk md ops pend k l && treeOk md ops l (listed.setIfInBounds k true) r
  | pend, listed, .br k1 l1 r1 k2 l2 r2 => Region.ready md ops listed == [k1, k2] && r1.len == r2.len && acOk md ops pend k1 l1 && acOk md ops pend k2 l2 &&
      treeOk md ops l1 (listed.setIfInBounds k1 true) r1 && treeOk md ops l2 (listed.setIfInBounds k2 true) r2

def treeB (md : Region.Mode) (ops : Array Oper) (plan : Tree) : Bool :=
  Region.noSelect ops && plan.len == ops.size && treeOk md ops [] (Array.replicate ops.size false) plan

theorem acOk_spec {pend l : List Nat} {k : Nat} (h : acOk md ops pend k l = true) : (∀ c ∈ rest md ops k pend, c ∈ l) ∧ (∀ c ∈ l, ∃ o, ops[c]? = some o) := by
  simp only [acOk, Bool.and_eq_true, List.all_eq_true, List.contains_iff_mem, Bool.or_eq_true, decide_eq_true_eq] at h
  refine ⟨fun c hc => ?_, fun c hc => ⟨_, Array.getElem?_eq_getElem (h.2 c hc)⟩⟩
  rw [rest, List.mem_filter] at hc
  rcases h.1 c hc.1 with e | e
  · exact e
  · have := hc.2; rw [ancd_spec e] at this; cases this

theorem wpAnyR_tree {Q : Act → World → Prop} (hsel : ∀ (j : Nat) (o : Oper) cs b, ops[j]? = some o → o.op ≠ .select cs b) : ∀ (plan : Tree) (pend : List Nat) (listed : Array Bool) (a : Act) (w : World),
    Closed md ops listed → (∀ c ∈ pend, ∃ o, ops[c]? = some o) → (∀ c ∈ pend, Redo P ops c a w) → treeOk md ops pend listed plan = true → wpTree P ops Q plan a w → wpAnyR P md ops Q pend plan.len listed a w
  | .done, pend, listed, a, w, _, _, _, hB, h => by
    rw [Tree.len, wpAnyR]
    exact ⟨by simpa [treeOk] using hB, h⟩
  | .st i r, pend, listed, a, w, hcl, hin, hre, hB, h => by
    simp only [treeOk, Bool.and_eq_true] at hB
    obtain ⟨⟨⟨hr, hf⟩, ho⟩, hB'⟩ := hB
    have hr' : i ∈ Region.ready md ops listed := by simpa using hr
    obtain ⟨_, oi, hoi, _⟩ := mem_ready.1 hr'
    simp only [hoi, Bool.and_eq_true, List.all_eq_true] at ho
    obtain ⟨hown, hap⟩ := ho
    have hp : ∀ c ∈ pend, ∃ oc, ops[c]? = some oc ∧ half ops oi oc = true := fun c hc => by
      obtain ⟨oc, hoc⟩ := hin c hc
      have := hap c hc
      simp only [hoc] at this
      exact ⟨oc, hoc, this⟩
    rw [wpTree] at h
    obtain ⟨v, hy, hK⟩ := yieldsAt_of_qOp hoi h
    refine wpAnyR_first hoi hsel hown r.len pend listed a w v hcl (Region.free_spec hoi hf) hp hr' hy ?_ hre
    refine wpAnyR_tree hsel r (i :: pend) _ _ w (hcl.set hr') (fun c hc => ?_) (fun c hc => ?_) hB' hK
    · rcases List.mem_cons.1 hc with rfl | hc
      · exact ⟨oi, hoi⟩
      · exact hin c hc
    · rcases List.mem_cons.1 hc with rfl | hc
      · exact YieldsAt.redo hoi hown (fun cs b => hsel c oi cs b hoi) hy
      · obtain ⟨oc, hoc, hapc⟩ := hp c hc
        exact (hre c hc).put hoc hapc (fun cs b => hsel c oc cs b hoc)
  | .ac k l r, pend, listed, a, w, hcl, hin, hre, hB, h => by
    simp only [treeOk, Bool.and_eq_true, beq_iff_eq] at hB
    obtain ⟨⟨hr, hl⟩, hB'⟩ := hB
    obtain ⟨hsub, hinl⟩ := acOk_spec hl
    have hr' : k ∈ Region.ready md ops listed := by rw [hr]; exact List.mem_cons_self ..
    rw [Tree.len, wpAnyR]
    refine ⟨fun h => (by rw [h] at hr'; cases hr'), fun j hj => ?_⟩
    rw [hr] at hj
    obtain rfl : j = k := by simpa using hj
    rw [wpTree] at h
    refine wpOp_mono (fun a' w' h' => ?_) h
    have hrel : ∀ c ∈ l, Redo P ops c a' w' := fun c hc => redo_of_chk l h'.1 c hc (hinl c hc)
    exact ⟨fun c hc => hrel c (hsub c hc), wpAnyR_sub _ hsub _ _ _ (wpAnyR_tree hsel r _ _ a' w' (hcl.set hr') hinl hrel hB' h'.2)⟩
  | .br k1 l1 r1 k2 l2 r2, pend, listed, a, w, hcl, hin, hre, hB, h => by
    simp only [treeOk, Bool.and_eq_true, beq_iff_eq] at hB
    obtain ⟨⟨⟨⟨⟨hr, hlen⟩, hl1⟩, hl2⟩, hB1⟩, hB2⟩ := hB
    obtain ⟨hsub1, hinl1⟩ := acOk_spec hl1
    obtain ⟨hsub2, hinl2⟩ := acOk_spec hl2
    have hr1 : k1 ∈ Region.ready md ops listed := by rw [hr]; simp
    have hr2 : k2 ∈ Region.ready md ops listed := by rw [hr]; simp
    rw [Tree.len, wpAnyR]
    refine ⟨fun h => (by rw [h] at hr1; cases hr1), fun j hj => ?_⟩
    rw [hr] at hj
    rw [wpTree] at h
    have hj' : j = k1 ∨ j = k2 := by simpa using hj
    rcases hj' with rfl | rfl
    · refine wpOp_mono (fun a' w' h' => ?_) h.1
      have hrel : ∀ c ∈ l1, Redo P ops c a' w' := fun c hc => redo_of_chk l1 h'.1 c hc (hinl1 c hc)
      exact ⟨fun c hc => hrel c (hsub1 c hc), wpAnyR_sub _ hsub1 _ _ _ (wpAnyR_tree hsel r1 _ _ a' w' (hcl.set hr1) hinl1 hrel hB1 h'.2)⟩
    · refine wpOp_mono (fun a' w' h' => ?_) h.2
      have hrel : ∀ c ∈ l2, Redo P ops c a' w' := fun c hc => redo_of_chk l2 h'.1 c hc (hinl2 c hc)
      rw [hlen]
      exact ⟨fun c hc => hrel c (hsub2 c hc), wpAnyR_sub _ hsub2 _ _ _ (wpAnyR_tree hsel r2 _ _ a' w' (hcl.set hr2) hinl2 hrel hB2 h'.2)⟩

/-- **A REGION THAT DRAWS ITS ORDER, WALKED BY A PLAN THAT MAY PART.** -/
theorem wp_region_tree {id : Nat} {Q : Exit → Act → World → Prop} {a : Act} {w : World} {l : List Oper} (plan : Tree) (hm : P.follows .mixedOrders = true) (hB : treeB .any l.toArray plan = true)
    (h : wpTree P l.toArray (Q .normal) plan a w.drew) : (Code.region id l.toArray true).wp P Q a w := by
  simp only [treeB, Bool.and_eq_true, beq_iff_eq] at hB
  obtain ⟨⟨hs, hlen⟩, hB⟩ := hB
  refine wp_region_any hm (wpAny_of_R (Q := Q .normal) (fun _ _ h => h) _ [] _ _ _ ?_)
  have := wpAnyR_tree (md := .any) (Region.noSelect_spec hs) plan [] (Array.replicate l.toArray.size false) a w.drew
    (fun j oj hj hl => by rw [rep_false] at hl; cases hl) (fun c hc => by cases hc) (fun c hc => by cases hc) hB h
  rw [hlen] at this
  exact this

/-- One step that only reads. -/
theorem tree_st {ops : List Oper} {Q : Act → World → Prop} {i : Nat} {r : Tree} {o : Oper} {a : Act} {w : World} (hi : ops[i]? = some o)
    (h : wpQuiet P ops.toArray (fun w' => w' = w) (fun a' => wpTree P ops.toArray Q r a' w) [o] a) : wpTree P ops.toArray Q (.st i r) a w := by
  rw [wpTree]; unfold qOp; simp only [List.getElem?_toArray, hi]
  exact h

/-- Behind an active step. -/
def TreeQ (P : Program) (ops : Array Oper) (Q : Act → World → Prop) (l : List Nat) (r : Tree) : Exit → Act → World → Prop
  | .normal, a, w => wpChk P ops l a w ∧ wpTree P ops Q r a w
  | _, _, _ => False

theorem treeQ_mk {Q : Act → World → Prop} {l : List Nat} {r : Tree} {a : Act} {w : World} (h1 : wpChk P ops l a w) (h2 : wpTree P ops Q r a w) : TreeQ P ops Q l r .normal a w := ⟨h1, h2⟩

theorem tree_op {ops : List Oper} {Q : Act → World → Prop} {k : Nat} {l : List Nat} {r : Tree} {o : Oper} {a : Act} {w : World} (hi : ops[k]? = some o)
    (h : wpList P ops.toArray (TreeQ P ops.toArray Q l r) [o] a w) : wpOp P ops.toArray NoQ k (fun a' w' => wpChk P ops.toArray l a' w' ∧ wpTree P ops.toArray Q r a' w') a w := by
  unfold wpOp; simp only [List.getElem?_toArray, hi]
  unfold wpList at h
  split
  · rename_i hw
    rw [if_pos hw] at h
    have key : ∀ {K : Act → World → Prop} , o.wp P a w K (TreeQ P ops.toArray Q l r) → o.wp P a w K NoQ := by
      intro K h
      unfold Oper.wp at *
      generalize (execOp a.eval o).run P w = r at *
      cases r with
      | ok n w' =>
        cases n <;> simp only [Oper.upon] at h ⊢ <;> first
          | exact h
          | exact Calls.mono h (fun e w'' he => by cases e with
              | returned v => exact he
              | panicked c => exact he.elim
              | outgrown => exact he.elim fun _ ⟨_, hf⟩ => hf.elim)
      | halt x w' => cases x <;> simp only [Oper.upon] at h ⊢ <;> exact h.elim
    rcases h with h | ⟨_, _, _, hf⟩
    · exact .inl (key h)
    · exact hf.elim
  · rename_i hw
    rw [if_neg hw] at h
    exact h

theorem tree_ac {ops : List Oper} {Q : Act → World → Prop} {k : Nat} {l : List Nat} {r : Tree} {o : Oper} {a : Act} {w : World} (hi : ops[k]? = some o)
    (h : wpList P ops.toArray (TreeQ P ops.toArray Q l r) [o] a w) : wpTree P ops.toArray Q (.ac k l r) a w := by
  rw [wpTree]; exact tree_op hi h

theorem tree_br {ops : List Oper} {Q : Act → World → Prop} {k1 k2 : Nat} {l1 l2 : List Nat} {r1 r2 : Tree} {o1 o2 : Oper} {a : Act} {w : World} (hi1 : ops[k1]? = some o1) (hi2 : ops[k2]? = some o2)
    (h1 : wpList P ops.toArray (TreeQ P ops.toArray Q l1 r1) [o1] a w) (h2 : wpList P ops.toArray (TreeQ P ops.toArray Q l2 r2) [o2] a w) : wpTree P ops.toArray Q (.br k1 l1 r1 k2 l2 r2) a w := by
  rw [wpTree]; exact ⟨tree_op hi1 h1, tree_op hi2 h2⟩

theorem tree_end {Q : Act → World → Prop} {a : Act} {w : World} (h : Q a w) : wpTree P ops Q .done a w := h
end
end Go.Proofs.Plan

namespace Go.Proofs.Plan
section
variable {P : Program} {ops : Array Oper}

theorem wp_region_tr {id : Nat} {Q : Exit → Act → World → Prop} {a : Act} {w : World} {l : List Oper} (plan : Tree) (hm : P.follows .mixedOrders = true) (hB : treeB .any l.toArray plan = true)
    (h : Stop (wpTree P l.toArray (Q .normal) plan a w.drew)) : (Code.region id l.toArray true).wp P Q a w := wp_region_tree plan hm hB h.out

theorem tr_st {ops : List Oper} {Q : Act → World → Prop} {i : Nat} {r : Tree} {o : Oper} {a : Act} {w : World} (hi : ops[i]? = some o)
    (h : wpQuiet P ops.toArray (fun w' => w' = w) (fun a' => Stop (wpTree P ops.toArray Q r a' w)) [o] a) : Stop (wpTree P ops.toArray Q (.st i r) a w) :=
  ⟨tree_st hi (by simpa only [stop_eq] using h)⟩

def TrQ (P : Program) (ops : Array Oper) (Q : Act → World → Prop) (l : List Nat) (r : Tree) : Exit → Act → World → Prop
  | .normal, a, w => wpChk P ops l a w ∧ Stop (wpTree P ops Q r a w)
  | _, _, _ => False

theorem trQ_eq (Q : Act → World → Prop) (l : List Nat) (r : Tree) : TrQ P ops Q l r = TreeQ P ops Q l r := by
  funext e a w
  cases e <;> simp [TrQ, TreeQ, stop_eq]

theorem trQ_mk {Q : Act → World → Prop} {l : List Nat} {r : Tree} {a : Act} {w : World} (h1 : wpChk P ops l a w) (h2 : Stop (wpTree P ops Q r a w)) : TrQ P ops Q l r .normal a w := ⟨h1, h2⟩

theorem tr_ac {ops : List Oper} {Q : Act → World → Prop} {k : Nat} {l : List Nat} {r : Tree} {o : Oper} {a : Act} {w : World} (hi : ops[k]? = some o)
    (h : wpList P ops.toArray (TrQ P ops.toArray Q l r) [o] a w) : Stop (wpTree P ops.toArray Q (.ac k l r) a w) := ⟨tree_ac hi (by rwa [trQ_eq] at h)⟩

theorem tr_br {ops : List Oper} {Q : Act → World → Prop} {k1 k2 : Nat} {l1 l2 : List Nat} {r1 r2 : Tree} {o1 o2 : Oper} {a : Act} {w : World} (hi1 : ops[k1]? = some o1) (hi2 : ops[k2]? = some o2)
    (h1 : wpList P ops.toArray (TrQ P ops.toArray Q l1 r1) [o1] a w) (h2 : wpList P ops.toArray (TrQ P ops.toArray Q l2 r2) [o2] a w) : Stop (wpTree P ops.toArray Q (.br k1 l1 r1 k2 l2 r2) a w) :=
  ⟨tree_br hi1 hi2 (by rwa [trQ_eq] at h1) (by rwa [trQ_eq] at h2)⟩

theorem tr_end {Q : Act → World → Prop} {a : Act} {w : World} (h : Q a w) : Stop (wpTree P ops Q .done a w) := ⟨tree_end h⟩
end
end Go.Proofs.Plan

namespace Go.Proofs.Plan
section
variable {P : Program}

theorem tr_run {ops : Array Oper} {Q : Act → World → Prop} {l : List Nat} {r : Tree} {o : Oper} {a : Act} {w : World} {v : Value} {w' : World}
    (hw : Region.wanted o (yielded ops a.tmps) = true) (hr : (execOp a.eval o).run P w = .ok (.value v) w')
    (h : ∀ a', a' = a.put o.dst v → TrQ P ops Q l r .normal a' w') : wpList P ops (TrQ P ops Q l r) [o] a w := by
  unfold wpList
  rw [if_pos hw]
  refine .inl ?_
  unfold Oper.wp
  rw [hr]
  unfold Oper.upon
  unfold wpList
  exact h _ rfl

theorem tr_run_skip {ops : Array Oper} {Q : Act → World → Prop} {l : List Nat} {r : Tree} {o : Oper} {a : Act} {w : World} {w' : World}
    (hw : Region.wanted o (yielded ops a.tmps) = true) (hd : o.dst = none) (hr : (execOp a.eval o).run P w = .ok .skip w')
    (h : TrQ P ops Q l r .normal a w') : wpList P ops (TrQ P ops Q l r) [o] a w := by
  unfold wpList
  rw [if_pos hw]
  refine .inl ?_
  unfold Oper.wp
  rw [hr]
  unfold Oper.upon
  unfold wpList
  first | exact h | (simp only [Act.put, hd]; exact h)
end
end Go.Proofs.Plan

namespace Go.Proofs.Plan
open Go.RowKit Go.Proofs.Heap
section
variable {P : Program}

/-- The active operation alone: no list, no guard, no other operation in sight. -/
theorem pl_acv {ops : List Oper} {Q : Act → World → Prop} {k : Nat} {l : List Nat} {r : List (Bool × Nat × List Nat)} {d : Option Tmp} {op : Op} {ty : TypeId} {pos : String} {af : Array Edge} {g : Option (Nat × Bool)} {a : Act} {w : World}
    (hi : ops[k]? = some ⟨d, op, ty, pos, af, g⟩) (hw : Region.wanted ⟨d, op, ty, pos, af, g⟩ (yielded ops.toArray a.tmps) = true)
    (h : ∀ Qp : Exit → Act → World → Prop, Hid (∀ a' w', PlQ P ops.toArray Q l r .normal a' w' → Qp .normal a' w') → wpList P #[] Qp [⟨d, op, ty, pos, #[], none⟩] a w) :
    Stop (wpPlan P ops.toArray Q ((true, k, l) :: r) a w) := by
  refine pl_ac hi ?_
  have h1 := h (PlQ P ops.toArray Q l r) (hid fun _ _ x => x)
  unfold wpList at h1 ⊢
  rw [if_pos hw]
  have h2 : Region.wanted ⟨d, op, ty, pos, #[], none⟩ (yielded #[] a.tmps) = true := rfl
  rw [if_pos h2] at h1
  exact h1

/-- A quiet operation alone. -/
theorem pl_stv {ops : List Oper} {Q : Act → World → Prop} {k : Nat} {l : List Nat} {r : List (Bool × Nat × List Nat)} {d : Option Tmp} {op : Op} {ty : TypeId} {pos : String} {af : Array Edge} {g : Option (Nat × Bool)} {a : Act} {w : World}
    (hi : ops[k]? = some ⟨d, op, ty, pos, af, g⟩) (hw : Region.wanted ⟨d, op, ty, pos, af, g⟩ (yielded ops.toArray a.tmps) = true)
    (h : ∀ K : Act → Prop, Hid (∀ a', Stop (wpPlan P ops.toArray Q r a' w) → K a') → wpQuiet P #[] (fun w' => w' = w) K [⟨d, op, ty, pos, #[], none⟩] a) :
    Stop (wpPlan P ops.toArray Q ((false, k, l) :: r) a w) := by
  refine pl_st hi ?_
  have h1 := h (fun a' => Stop (wpPlan P ops.toArray Q r a' w)) (hid fun _ x => x)
  unfold wpQuiet at h1 ⊢
  rw [if_pos hw]
  have h2 : Region.wanted ⟨d, op, ty, pos, #[], none⟩ (yielded #[] a.tmps) = true := rfl
  rw [if_pos h2] at h1
  exact h1

/-- An active operation whose run is known. -/
theorem pl_run {ops : List Oper} {Q : Act → World → Prop} {k : Nat} {l : List Nat} {r : List (Bool × Nat × List Nat)} {o : Oper} {a : Act} {w : World} {v : Value} {w' : World}
    (hi : ops[k]? = some o) (hw : Region.wanted o (yielded ops.toArray a.tmps) = true) (hr : (execOp a.eval o).run P w = .ok (.value v) w')
    (h : ∀ a', a' = a.put o.dst v → PlQ P ops.toArray Q l r .normal a' w') : Stop (wpPlan P ops.toArray Q ((true, k, l) :: r) a w) := by
  refine pl_ac hi ?_
  unfold wpList
  rw [if_pos hw]
  refine .inl ?_
  unfold Oper.wp
  rw [hr]
  unfold Oper.upon
  unfold wpList
  exact h _ rfl

/-- An active operation that isn't wanted. -/
theorem pl_skip {ops : List Oper} {Q : Act → World → Prop} {k : Nat} {l : List Nat} {r : List (Bool × Nat × List Nat)} {o : Oper} {a : Act} {w : World}
    (hi : ops[k]? = some o) (hw : Region.wanted o (yielded ops.toArray a.tmps) = false) (h : ∀ a', a' = a.put o.dst undef → PlQ P ops.toArray Q l r .normal a' w) : Stop (wpPlan P ops.toArray Q ((true, k, l) :: r) a w) := by
  refine pl_ac hi ?_
  unfold wpList
  rw [if_neg (by rw [hw]; exact Bool.false_ne_true)]
  unfold wpList
  exact h _ rfl

/-- An active operation whose run is known and leaves no value. -/
theorem pl_run_skip {ops : List Oper} {Q : Act → World → Prop} {k : Nat} {l : List Nat} {r : List (Bool × Nat × List Nat)} {o : Oper} {a : Act} {w : World} {w' : World}
    (hi : ops[k]? = some o) (hw : Region.wanted o (yielded ops.toArray a.tmps) = true) (hd : o.dst = none) (hr : (execOp a.eval o).run P w = .ok .skip w')
    (h : PlQ P ops.toArray Q l r .normal a w') : Stop (wpPlan P ops.toArray Q ((true, k, l) :: r) a w) := by
  refine pl_ac hi ?_
  unfold wpList
  rw [if_pos hw]
  refine .inl ?_
  unfold Oper.wp
  rw [hr]
  unfold Oper.upon
  unfold wpList
  first | exact h | (simp only [Act.put, hd]; exact h)
end
end Go.Proofs.Plan
