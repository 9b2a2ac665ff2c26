/- What is proved: plain laws of formulas: all numbers are numbers; what a formula does not use plays no part; a formula of two formulas. -/
import Derived.Test.YtlhdofkgcbmnnaaGreatMWideMul
import Derived.Test.YtlhdofkgcbmnnaaGreatMMapStr
import Derived.Test.YtlhdofkgcbmnnaaGreatMRegion
import Derived.Laws.StructEq
namespace Go.Proofs.YtlhdofkgcbmnnaaGreat
open Go.RowKit Go.Proofs.Heap Go.Proofs.Sch Go.Proofs.Wide

def FitL (l : List WI) : Prop := ∀ x ∈ l, x.fit
def FitF (fs : List (List WI)) : Prop := ∀ l ∈ fs, FitL l
theorem getD_fit {l : List WI} (h : FitL l) (i : Nat) : (l.getD i zW).fit := by
  rw [List.getD_eq_getElem?_getD]
  cases e : l[i]? with
  | none => exact zW_fit
  | some x => exact h x (List.mem_of_getElem? e)
theorem elemW_fit {fs : List (List WI)} (h : FitF fs) (a b : Int) : (elemW fs a b).1.fit := by
  unfold elemW
  split
  · split
    next x e =>
      rw [List.getD_eq_getElem?_getD] at e
      cases e2 : fs[a.toNat]? with
      | none => rw [e2] at e; simp at e
      | some l => rw [e2] at e; exact h l (List.mem_of_getElem? e2) x (List.mem_of_getElem? e)
    · exact zW_fit
  · exact zW_fit
theorem leafW_fit {fs : List (List WI)} (h : FitF fs) {pl : Int} (hp : pl < 9223372036854775808) {x : Ins} (hx : x.k.fit) : (leafW fs pl x).1.fit := by
  unfold leafW
  split
  · exact elemW_fit h _ _
  split
  · exact elemW_fit h _ _
  split
  · split
    · exact zW_fit
    · exact ofM_fit _ (by omega)
  · exact hx
theorem truthW_fit (b : Bool) : (truthW b).fit := by
  cases b
  · exact zW_fit
  · exact ofM_fit _ (by decide)
theorem ite_fit {c : Prop} [Decidable c] {a b : WI × Nat} (ha : a.1.fit) (hb : b.1.fit) : (if c then a else b).1.fit := by
  split <;> assumption
theorem ite_fit1 {c : Prop} [Decidable c] {a b : WI} (ha : a.fit) (hb : b.fit) : (if c then a else b).fit := by
  split <;> assumption
theorem opW_fit {op : Int} {x y z : WI} (hx : x.fit) (hy : y.fit) (hz : z.fit) : (opW op x y z).1.fit := by
  unfold opW
  exact ite_fit (addW_fit _ _) <| ite_fit (subW_fit _ _) <| ite_fit (mulW_fit _ _) <| ite_fit (quoW_fit hx) <| ite_fit (remW_fit hx) <|
    ite_fit (ite_fit (negW_fit hx) zW_fit) <| ite_fit (ite_fit (ite_fit1 hx hy) zW_fit) <| ite_fit (ite_fit (ite_fit1 hx hy) zW_fit) <|
    ite_fit (ite_fit (truthW_fit _) zW_fit) <| ite_fit (ite_fit (truthW_fit _) zW_fit) <| ite_fit (ite_fit (truthW_fit _) zW_fit) <|
    ite_fit (ite_fit (ite_fit1 hz hy) zW_fit) <| ite_fit (ite_fit zW_fit hx) zW_fit
theorem insW_fit {fs : List (List WI)} (h : FitF fs) {pl : Int} (hp : pl < 9223372036854775808) {x : Ins} (hx : x.k.fit) {l : List WI} (hl : FitL l) : (insW fs pl x l).1.fit := by
  unfold insW
  split
  · exact leafW_fit h hp hx
  · exact opW_fit (getD_fit hl 0) (getD_fit hl 1) (getD_fit hl 2)
theorem next_fit {fs : List (List WI)} (h : FitF fs) {pl : Int} (hp : pl < 9223372036854775808) {x : Ins} (hx : x.k.fit) {st : List WI} (hs : FitL st) (i j : Nat) : FitL (st.take i ++ [(insW fs pl x (st.drop j)).1]) := by
  intro y hy
  rcases List.mem_append.1 hy with h1 | h1
  · exact hs y (List.mem_of_mem_take h1)
  · rw [List.mem_singleton.1 h1]
    exact insW_fit h hp hx (fun z hz => hs z (List.mem_of_mem_drop hz))
theorem runW_fit {fs : List (List WI)} (h : FitF fs) {pl : Int} (hp : pl < 9223372036854775808) : ∀ {code : List Ins} {st : List WI}, (∀ x ∈ code, x.k.fit) → FitL st → FitL (runW fs pl st code).1 := by
  intro code
  induction code with
  | nil => intro st _ hs; exact hs
  | cons x r ih =>
    intro st hc hs
    rw [runW_cons]
    split
    · exact ih (fun y hy => hc y (by simp [hy])) (next_fit h hp (hc x (by simp)) hs _ _)
    · intro y hy; simp at hy
theorem evalW_fit {fs : List (List WI)} (h : FitF fs) {pl : Int} (hp : pl < 9223372036854775808) {code : List Ins} (hc : ∀ x ∈ code, x.k.fit) : (evalW fs pl code).1.fit := by
  unfold evalW
  split
  · exact zW_fit
  split
  · exact zW_fit
  split
  · exact getD_fit (runW_fit h hp hc (by intro x hx; simp at hx)) 0
  · exact zW_fit

/-- Whether an instruction uses an element. -/
def hitB (pl : Int) (f k : Nat) (x : Ins) : Bool := decide (x.a = (f : Int)) && (decide (x.op = 2 ∧ x.b = (k : Int)) || decide (x.op = 3 ∧ pl = (k : Int)))
theorem elemW_other {fs : List (List WI)} {f k : Nat} {row : List WI} (v : WI) (hf : fs[f]? = some row) {a b : Int} (h : ¬ (a = (f : Int) ∧ b = (k : Int))) : elemW (fs.set f (row.set k v)) a b = elemW fs a b := by
  unfold elemW
  split
  next hab =>
    have e : ((fs.set f (row.set k v)).getD a.toNat [])[b.toNat]? = (fs.getD a.toNat [])[b.toNat]? := by
      by_cases ha : a.toNat = f
      · have hb : b.toNat ≠ k := fun hb => h ⟨by omega, by omega⟩
        rw [List.getD_eq_getElem?_getD, List.getD_eq_getElem?_getD, ha, List.getElem?_set_self (List.getElem?_eq_some_iff.1 hf).1, hf]
        simp only [Option.getD_some]
        rw [List.getElem?_set_ne (Ne.symm hb)]
      · rw [List.getD_eq_getElem?_getD, List.getD_eq_getElem?_getD, List.getElem?_set_ne (Ne.symm ha)]
    rw [e]
  · rfl
theorem insW_other {fs : List (List WI)} {f k : Nat} {row : List WI} (v : WI) (hf : fs[f]? = some row) {pl : Int} {x : Ins} (h : hitB pl f k x = false) (l : List WI) : insW (fs.set f (row.set k v)) pl x l = insW fs pl x l := by
  unfold insW
  split
  · unfold leafW
    unfold hitB at h
    simp only [Bool.and_eq_false_iff, Bool.or_eq_false_iff, decide_eq_false_iff_not] at h
    split
    next h2 => exact elemW_other v hf (fun hh => by rcases h with h | h; exact h hh.1; exact h.1 ⟨h2, hh.2⟩)
    split
    next h3 => exact elemW_other v hf (fun hh => by rcases h with h | h; exact h hh.1; exact h.2 ⟨h3, hh.2⟩)
    rfl
  · rfl
theorem runW_other {fs : List (List WI)} {f k : Nat} {row : List WI} (v : WI) (hf : fs[f]? = some row) {pl : Int} : ∀ {code : List Ins} {st : List WI}, (∀ x ∈ code, hitB pl f k x = false) → runW (fs.set f (row.set k v)) pl st code = runW fs pl st code := by
  intro code
  induction code with
  | nil => intro st _; rfl
  | cons x r ih =>
    intro st h
    rw [runW_cons, runW_cons, insW_other v hf (h x (by simp)), ih (fun y hy => h y (by simp [hy]))]
/-- What a formula does not use plays no part. -/
theorem evalW_other {fs : List (List WI)} {f k : Nat} {row : List WI} (v : WI) (hf : fs[f]? = some row) {pl : Int} {code : List Ins} (h : ∀ x ∈ usesL code, hitB pl f k x = false) : evalW (fs.set f (row.set k v)) pl code = evalW fs pl code := by
  have h2 : ∀ x ∈ code, hitB pl f k x = false := by
    intro x hx
    by_cases hu : useB x = true
    · exact h x (List.mem_filter.2 ⟨hx, hu⟩)
    · unfold useB at hu
      rw [decide_eq_true_eq] at hu
      unfold hitB
      simp only [Bool.and_eq_false_iff, Bool.or_eq_false_iff, decide_eq_false_iff_not]
      exact .inr ⟨fun hh => hu (.inl hh.1), fun hh => hu (.inr hh.1)⟩
  unfold evalW
  rw [runW_other v hf h2]

theorem evalW_ok {fs : List (List WI)} {pl : Int} {code : List Ins} (hc : exprC code = 0) (h : (evalW fs pl code).2 = 0) : runW fs pl [] code = ([(evalW fs pl code).1], 0) ∧ (evalW fs pl code).1.form = true := by
  have hr := (runW_front fs pl [] code [] (exprC_run hc).2).2
  unfold evalW at h ⊢
  rw [if_neg (by rw [hc]; simp)] at h ⊢
  split at h
  next h1 => exact absurd h h1
  next h1 =>
  have h1' : (runW fs pl [] code).2 = 0 := by omega
  rw [if_neg h1]
  split at h
  next h2 =>
    rw [if_pos h2]
    refine ⟨?_, h2⟩
    have hl := hr h1'
    obtain ⟨l, e⟩ : ∃ l, runW fs pl [] code = l := ⟨_, rfl⟩
    rw [e] at hl h1' ⊢
    obtain ⟨l, n⟩ := l
    simp only at hl h1'
    obtain ⟨y, rfl⟩ := List.length_eq_one_iff.1 hl
    rw [h1']; rfl
  next h2 => simp at h
theorem evalW_no {fs : List (List WI)} {pl : Int} {code : List Ins} (h : (evalW fs pl code).2 ≠ 0) : (evalW fs pl code).1 = zW := by
  unfold evalW at h ⊢
  split
  · rfl
  next h1 =>
  rw [if_neg h1] at h
  split
  · rfl
  next h2 =>
  rw [if_neg h2] at h
  split
  next h3 => rw [if_pos h3] at h; simp at h
  · rfl
/-- A formula of two formulas comes to what its instruction makes of their numbers. -/
theorem evalW_join {fs : List (List WI)} (hfs : FitF fs) {pl : Int} (hp : pl < 9223372036854775808) {a b : List Ins} {y : Ins} (hfa : ∀ x ∈ a, x.k.fit) (hfb : ∀ x ∈ b, x.k.fit) (h5 : 5 ≤ y.op ∧ y.op ≤ 9)
    (ha : exprC a = 0) (hb : exprC b = 0) (hab : exprC (a ++ b ++ [y]) = 0) :
    if (evalW fs pl a).2 = 0 ∧ (evalW fs pl b).2 = 0 then evalW fs pl (a ++ b ++ [y]) = opW y.op (evalW fs pl a).1 (evalW fs pl b).1 zW else (evalW fs pl (a ++ b ++ [y])).2 ≠ 0 ∧ (evalW fs pl (a ++ b ++ [y])).1 = zW := by
  have hargs : argsN y.op = 2 := by unfold argsN; rw [if_neg (by omega), if_neg (by omega), if_neg (by omega)]
  have e0 : runW fs pl [] (a ++ b ++ [y]) = if (runW fs pl [] (a ++ b)).2 = 0 then runW fs pl (runW fs pl [] (a ++ b)).1 [y] else ([], (runW fs pl [] (a ++ b)).2) := runW_app fs pl [y] (a ++ b) []
  have e1 : runW fs pl [] (a ++ b) = if (runW fs pl [] a).2 = 0 then runW fs pl (runW fs pl [] a).1 b else ([], (runW fs pl [] a).2) := runW_app fs pl b a []
  have eb : ∀ s0, runW fs pl s0 b = (if (runW fs pl [] b).2 = 0 then s0 ++ (runW fs pl [] b).1 else [], (runW fs pl [] b).2) := fun s0 => by
    have := (runW_front fs pl s0 b [] (exprC_run hb).2).1
    rwa [List.append_nil] at this
  have eab : evalW fs pl (a ++ b ++ [y]) = if (runW fs pl [] (a ++ b ++ [y])).2 ≠ 0 then (zW, (runW fs pl [] (a ++ b ++ [y])).2) else if ((runW fs pl [] (a ++ b ++ [y])).1.getD 0 zW).form = true then ((runW fs pl [] (a ++ b ++ [y])).1.getD 0 zW, 0) else (zW, 4) := by
    unfold evalW
    rw [if_neg (by rw [hab]; simp)]
  have hbad : (runW fs pl [] (a ++ b ++ [y])).2 ≠ 0 → (evalW fs pl (a ++ b ++ [y])).2 ≠ 0 ∧ (evalW fs pl (a ++ b ++ [y])).1 = zW := by
    intro h
    rw [eab, if_pos h]
    exact ⟨h, rfl⟩
  by_cases hra : (runW fs pl [] a).2 = 0
  rotate_left
  · have hea : (evalW fs pl a).2 ≠ 0 := by
      unfold evalW
      rw [if_neg (by rw [ha]; simp), if_pos hra]
      exact hra
    rw [if_neg (fun h => hea h.1)]
    refine hbad ?_
    rw [e0, e1, if_neg hra, if_neg hra]
    exact hra
  by_cases hrb : (runW fs pl [] b).2 = 0
  rotate_left
  · have heb : (evalW fs pl b).2 ≠ 0 := by
      unfold evalW
      rw [if_neg (by rw [hb]; simp), if_pos hrb]
      exact hrb
    rw [if_neg (fun h => heb h.2)]
    refine hbad ?_
    rw [e0, e1, if_pos hra, eb, if_neg hrb, if_neg hrb]
    exact hrb
  have hla := (runW_front fs pl [] a [] (exprC_run ha).2).2 hra
  have hlb := (runW_front fs pl [] b [] (exprC_run hb).2).2 hrb
  have hfxa := runW_fit hfs hp hfa (st := []) (by intro x hx; simp at hx)
  have hfxb := runW_fit hfs hp hfb (st := []) (by intro x hx; simp at hx)
  obtain ⟨u, hu⟩ := List.length_eq_one_iff.1 hla
  obtain ⟨v, hv⟩ := List.length_eq_one_iff.1 hlb
  rw [hu] at hfxa
  rw [hv] at hfxb
  have hfu : u.fit := hfxa u (by simp)
  have hfv : v.fit := hfxb v (by simp)
  have eva : evalW fs pl a = if u.form = true then (u, 0) else (zW, 4) := by
    unfold evalW
    rw [if_neg (by rw [ha]; simp), if_neg (by rw [hra]; simp), hu]
    rfl
  have evb : evalW fs pl b = if v.form = true then (v, 0) else (zW, 4) := by
    unfold evalW
    rw [if_neg (by rw [hb]; simp), if_neg (by rw [hrb]; simp), hv]
    rfl
  have er : runW fs pl [] (a ++ b ++ [y]) = if (opW y.op u v zW).2 = 0 then ([(opW y.op u v zW).1], 0) else ([], (opW y.op u v zW).2) := by
    have e2 : runW fs pl [] (a ++ b) = ([u, v], 0) := by
      rw [e1, if_pos hra, eb, if_pos hrb, hu, hv, hrb]
      rfl
    rw [e0, e2, if_pos rfl, runW_cons]
    have e3 : insW fs pl y (List.drop (List.length [u, v] - argsN y.op) [u, v]) = opW y.op u v zW := by
      unfold insW
      rw [hargs, if_neg (by omega)]
      rfl
    have e4 : List.take (List.length [u, v] - argsN y.op) [u, v] = [] := by rw [hargs]; rfl
    rw [show (([u, v], 0) : List WI × Nat).1 = [u, v] from rfl, e3, e4]
    rfl
  by_cases hop : (opW y.op u v zW).2 = 0
  · obtain ⟨g1, g2, g3⟩ := opW_form h5 hfu hop
    rw [eva, evb, if_pos g2, if_pos g3, if_pos ⟨rfl, rfl⟩, eab, er, if_pos hop, if_neg (by simp)]
    exact (if_pos g1).trans (Prod.ext rfl hop.symm)
  · have h1 := hbad (by rw [er, if_neg hop]; exact hop)
    by_cases hf : u.form = true ∧ v.form = true
    · rw [eva, evb, if_pos hf.1, if_pos hf.2, if_pos ⟨rfl, rfl⟩, eab, er, if_neg hop, if_pos hop]
      exact Prod.ext (opW_zero h5 hop).symm rfl
    · rw [if_neg]
      · exact h1
      · rw [eva, evb]
        rintro ⟨h2, h3⟩
        refine hf ⟨?_, ?_⟩
        · by_cases h : u.form = true
          · exact h
          · rw [if_neg h] at h2; simp at h2
        · by_cases h : v.form = true
          · exact h
          · rw [if_neg h] at h3; simp at h3
end Go.Proofs.YtlhdofkgcbmnnaaGreat

namespace Go.Proofs.YtlhdofkgcbmnnaaGreat
open Go.RowKit Go.Proofs.Heap Go.Proofs.Sch Go.Proofs.Wide

section
variable {P : Program} {ops : Array Oper}
theorem quiet_neq {Q : Act → Prop} {rest : List Oper} {a : Act} {o : Oper} {w : World} (hgd : o.guard = none) (t u : TypeId) (x y : Operand) (xs ys : Array Value) (b : Bool) (ho : o.op = .binOp .neq t x y u) (hx : a.eval x = .agg xs) (hy : a.eval y = .agg ys)
    (hm : P.eqGuardType P.depth t = false) (hl : (binOp .neq t (.agg xs) (.agg ys)).run P w = .ok (.bool b) w) (h : wpQuiet P ops (fun w' => w' = w) Q rest (a.put o.dst (.bool b))) : wpQuiet P ops (fun w' => w' = w) Q (o :: rest) a := by
  refine BigFrame.wpQuiet_want (by simp [Region.wanted, hgd]) fun K hK => ⟨.bool b, fun w' hw' => ?_, hK _ h⟩
  subst hw'
  have hg := fun (o1 o2 : Operand) => run_eqGuard_agg (P := P) (w := w') .neq t o1 o2 xs ys hm
  unfold Oper.quietAt execOp
  simp [ho, hx, hy, hl, hg]
  exact ⟨rfl, rfl⟩
end
theorem eq_wi (x y : WI) (w : World) : (Op.equalIn 10000 86 (WV x) (WV y)).run Tryz.prog w = .ok (x.neg == y.neg && ((x.hi : Int) == (y.hi : Int) && (x.lo : Int) == (y.lo : Int))) w := by
  have u1 := Tryz.underlying4
  have u2 := Tryz.underlying84
  have hS : Tryz.prog.underlying 86 = some (.struct (Tryz.prog.fieldsOf 86)) := by kernel_rfl
  have hp : Tryz.prog.stoodInHeld 86 = false := by kernel_rfl
  rw [show (10000 : Nat) = 9999 + 1 from rfl, run_equalIn_agg w 9999 86 _ _ hS hp]
  simp only [Program.fieldsOf, Tryz.underlying86]
  go_simp
  obtain ⟨n1, h1, l1⟩ := x
  obtain ⟨n2, h2, l2⟩ := y
  cases n1 <;> cases n2 <;> by_cases e1 : (h1 : Int) = (h2 : Int) <;> by_cases e2 : (l1 : Int) = (l2 : Int) <;> simp [e1, e2]
theorem neq_wi (x y : WI) (w : World) : (binOp .neq 86 (WV x) (WV y)).run Tryz.prog w = .ok (.bool (!(x.neg == y.neg && ((x.hi : Int) == (y.hi : Int) && (x.lo : Int) == (y.lo : Int))))) w := by
  rw [run_neq_struct, eq_wi]; rfl
theorem neq_same (x : WI) (w : World) : (binOp .neq 86 (WV x) (WV x)).run Tryz.prog w = .ok (.bool false) w := by
  rw [neq_wi]; simp
theorem neq_other {x y : WI} (h : x ≠ y) (w : World) : (binOp .neq 86 (WV x) (WV y)).run Tryz.prog w = .ok (.bool true) w := by
  rw [neq_wi]
  cases e : (x.neg == y.neg && ((x.hi : Int) == (y.hi : Int) && (x.lo : Int) == (y.lo : Int)))
  · rfl
  · exfalso
    simp only [Bool.and_eq_true, beq_iff_eq] at e
    obtain ⟨n1, h1, l1⟩ := x
    obtain ⟨n2, h2, l2⟩ := y
    obtain ⟨e1, e2, e3⟩ := e
    simp only at e1 e2 e3
    exact h (by rw [e1, show h1 = h2 by omega, show l1 = l2 by omega])
end Go.Proofs.YtlhdofkgcbmnnaaGreat

namespace Go.Proofs.YtlhdofkgcbmnnaaGreat
open Go.RowKit Go.Proofs.Heap Go.Proofs.Sch Go.Proofs.Wide

def NumsAt (B : Nat) (w : World) (b o : Nat) (x : List WI) : Prop := ∃ p k, w.cell? ⟨b, o, none⟩ = some (.slice p x.length k) ∧ x.length ≤ k ∧ XP w B p x
/-- A row of rows of numbers. -/
def YP (w : World) (B : Nat) (p : Option Addr) (l : List (List WI)) : Prop := RowP 1 (NumsAt B) w B p l
theorem YP.low {w w' : World} {B : Nat} {p : Option Addr} {l : List (List WI)} (h : YP w B p l) (hl : Low B w w') : YP w' B p l :=
  RowP.imp h (Nat.le_refl _) fun b o x hb hx => by
    obtain ⟨q, k, h1, h2, h3⟩ := hx
    exact ⟨q, k, by rw [hl.cell hb]; exact h1, h2, XP.low h3 hl⟩
theorem YP.mono {w : World} {B B' : Nat} {p : Option Addr} {l : List (List WI)} (h : YP w B p l) (hB : B ≤ B') : YP w B' p l :=
  RowP.imp h hB fun b o x hb hx => by
    obtain ⟨q, k, h1, h2, h3⟩ := hx
    exact ⟨q, k, h1, h2, XP.mono h3 hB⟩
theorem YP.at {w : World} {B : Nat} {p : Option Addr} {l : List (List WI)} (h : YP w B p l) {i : Nat} {x : List WI} (hi : l[i]? = some x) : ∃ b off q k, p = some ⟨b, off, none⟩ ∧ b < B ∧ w.cell? ⟨b, off + i, none⟩ = some (.slice q x.length k) ∧ x.length ≤ k ∧ XP w B q x := by
  rcases h with rfl | ⟨b, off, hp, hb, hc⟩
  · simp at hi
  · obtain ⟨q, k, h1, h2, h3⟩ := hc i x hi
    rw [Nat.mul_one] at h1
    exact ⟨b, off, q, k, hp, hb, h1, h2, h3⟩
abbrev EnvV (p : Option Addr) (n c : Nat) (pl : Int) : Value := .agg #[.slice p n c, .int .i64 pl]

set_option maxRecDepth 20000 in
set_option maxHeartbeats 8000000 in
theorem env_elem (fs : List (List WI)) (p : Option Addr) (cap : Nat) (pl a b : Int) (w : World) (hP : YP w w.heap.size p fs) :
    Calls Tryz.prog 164 #[EnvV p fs.length cap pl, .int .i64 a, .int .i64 b] w fun r w' => r = .returned (.tuple #[WV (elemW fs a b).1, iV (elemW fs a b).2]) ∧ Keep (fun _ => False) w w' := by
  obtain ⟨R, hR⟩ : ∃ R, elemW fs a b = R := ⟨_, rfl⟩
  have HRE := hid hR
  rw [hR]
  obtain ⟨w1, hw1, hb1, hb2, hs1, hk1⟩ := box2 w #[.slice p fs.length cap, .int .i64 pl] Z3 97 86
  have HK1 := hid hk1; have HR1 := hid hb2
  have HP := hid (YP.low hP (Low.keep0 hk1))
  have e0 := cell_of hb1 (i := 0) (by rfl)
  have e1 := cell_of hb1 (i := 1) (by rfl)
  clear hb1 hb2 hs1 hk1 hP hR
  go_enter Tryz.func164, Tryz.ntmps164
  go_upto_region 1 with fail
  rw [← hw1]
  clear hw1
  obtain ⟨sr, hsr⟩ : ∃ sr, w.heap.size + 1 = sr := ⟨_, rfl⟩
  have HSR : Hid (w.heap.size ≤ sr) := hid (by omega)
  rw [hsr] at HR1 ⊢
  clear hsr
  generalize hse : w.heap.size = se at *
  have HSE := hid hse
  clear hse
  have f0 := free_of HR1.out 0
  have f1 := free_of HR1.out 1
  have f2 := free_of HR1.out 2
  have c0 := cell_of HR1.out (i := 0) (by rfl)
  have c1 := cell_of HR1.out (i := 1) (by rfl)
  have c2 := cell_of HR1.out (i := 2) (by rfl)
  by_cases h1 : a < 0
  · have g1 : decide (a < 0) = true := decide_eq_true h1
    have G : Hid (R = (zW, 3)) := hid (HRE.out.symm.trans (if_neg (by omega)))
    go_wp2
    (try simp only [Exit.inBlock, Exit.then])
    refine bodyPost_ret (results_ct rfl _ rfl (run_loadVar_row _ sr _ 86 _ _ _ (cells3 (.bool false) (.int .u64 0) (.int .u64 0) HR1.out) Tryz.underlying86 rfl (by kernel_rfl))) rfl ?_
    exact ⟨by rw [G.out]; rfl, ((HK1.out.setCell_new (p := ⟨sr, 0, none⟩) (by show _ ≤ sr; have := HSR.out; have := HSE.out; omega) _).setCell_new (p := ⟨sr, 1, none⟩) (by show _ ≤ sr; have := HSR.out; have := HSE.out; omega) _).setCell_new (p := ⟨sr, 2, none⟩) (by show _ ≤ sr; have := HSR.out; have := HSE.out; omega) _⟩
  obtain ⟨i, rfl⟩ := Int.eq_ofNat_of_zero_le (a := a) (by omega)
  have g1 : decide ((i : Int) < 0) = false := decide_eq_false h1
  by_cases h2 : fs.length ≤ i
  · have g2 : decide ((fs.length : Int) ≤ (i : Int)) = true := decide_eq_true (by omega)
    have g2' : decide (fs.length ≤ i) = true := decide_eq_true h2
    have G : Hid (R = (zW, 3)) := hid (by
      rw [← HRE.out]
      unfold elemW
      split
      · rw [List.getD_eq_getElem?_getD, Int.toNat_natCast, List.getElem?_eq_none h2]
        simp
      · rfl)
    go_wp2
    (try simp only [Exit.inBlock, Exit.then])
    refine bodyPost_ret (results_ct rfl _ rfl (run_loadVar_row _ sr _ 86 _ _ _ (cells3 (.bool false) (.int .u64 0) (.int .u64 0) HR1.out) Tryz.underlying86 rfl (by kernel_rfl))) rfl ?_
    exact ⟨by rw [G.out]; rfl, ((HK1.out.setCell_new (p := ⟨sr, 0, none⟩) (by show _ ≤ sr; have := HSR.out; have := HSE.out; omega) _).setCell_new (p := ⟨sr, 1, none⟩) (by show _ ≤ sr; have := HSR.out; have := HSE.out; omega) _).setCell_new (p := ⟨sr, 2, none⟩) (by show _ ≤ sr; have := HSR.out; have := HSE.out; omega) _⟩
  have g2 : decide ((fs.length : Int) ≤ (i : Int)) = false := decide_eq_false (by omega)
  have g2' : decide (fs.length ≤ i) = false := decide_eq_false h2
  have hin : (0 : Int) ≤ (i : Int) ∧ (i : Int) < (fs.length : Int) := ⟨by omega, by omega⟩
  obtain ⟨row, hrow⟩ : ∃ row, fs[i]? = some row := ⟨fs[i], by simp [Nat.lt_of_not_le h2]⟩
  obtain ⟨yb, yo, q, k, rfl, hyb, y0, hk, hxp⟩ := YP.at HP.out hrow
  have HX := hid hxp
  have HROW := hid hrow
  clear hyb hxp hrow
  by_cases h3 : b < 0
  · have g3 : decide (b < 0) = true := decide_eq_true h3
    have G : Hid (R = (zW, 3)) := hid (HRE.out.symm.trans (if_neg (by omega)))
    go_wp2
    (try simp only [Exit.inBlock, Exit.then])
    refine bodyPost_ret (results_ct rfl _ rfl (run_loadVar_row _ sr _ 86 _ _ _ (cells3 (.bool false) (.int .u64 0) (.int .u64 0) HR1.out) Tryz.underlying86 rfl (by kernel_rfl))) rfl ?_
    exact ⟨by rw [G.out]; rfl, ((HK1.out.setCell_new (p := ⟨sr, 0, none⟩) (by show _ ≤ sr; have := HSR.out; have := HSE.out; omega) _).setCell_new (p := ⟨sr, 1, none⟩) (by show _ ≤ sr; have := HSR.out; have := HSE.out; omega) _).setCell_new (p := ⟨sr, 2, none⟩) (by show _ ≤ sr; have := HSR.out; have := HSE.out; omega) _⟩
  obtain ⟨j, rfl⟩ := Int.eq_ofNat_of_zero_le (a := b) (by omega)
  have g3 : decide ((j : Int) < 0) = false := decide_eq_false h3
  have HEQ : Hid (R = match row[j]? with | some x => (x, 0) | none => (zW, 3)) := hid (by
    rw [← HRE.out]
    unfold elemW
    rw [if_pos (by omega), List.getD_eq_getElem?_getD, Int.toNat_natCast, Int.toNat_natCast, HROW.out]
    rfl)
  by_cases h4 : row.length ≤ j
  · have g4 : decide ((row.length : Int) ≤ (j : Int)) = true := decide_eq_true (by omega)
    have g4' : decide (row.length ≤ j) = true := decide_eq_true h4
    have G : Hid (R = (zW, 3)) := hid (by rw [HEQ.out, List.getElem?_eq_none h4])
    go_wp2
    (try simp only [Exit.inBlock, Exit.then])
    refine bodyPost_ret (results_ct rfl _ rfl (run_loadVar_row _ sr _ 86 _ _ _ (cells3 (.bool false) (.int .u64 0) (.int .u64 0) HR1.out) Tryz.underlying86 rfl (by kernel_rfl))) rfl ?_
    exact ⟨by rw [G.out]; rfl, ((HK1.out.setCell_new (p := ⟨sr, 0, none⟩) (by show _ ≤ sr; have := HSR.out; have := HSE.out; omega) _).setCell_new (p := ⟨sr, 1, none⟩) (by show _ ≤ sr; have := HSR.out; have := HSE.out; omega) _).setCell_new (p := ⟨sr, 2, none⟩) (by show _ ≤ sr; have := HSR.out; have := HSE.out; omega) _⟩
  have g4 : decide ((row.length : Int) ≤ (j : Int)) = false := decide_eq_false (by omega)
  have g4' : decide (row.length ≤ j) = false := decide_eq_false h4
  have hin2 : (0 : Int) ≤ (j : Int) ∧ (j : Int) < (row.length : Int) := ⟨by omega, by omega⟩
  obtain ⟨x, hx⟩ : ∃ x, row[j]? = some x := ⟨row[j], by simp [Nat.lt_of_not_le h4]⟩
  obtain ⟨xb, xo, rfl, hxb, x0, x1, x2⟩ := XP.at HX.out hx
  have G : Hid (R = (x, 0)) := hid (by rw [HEQ.out, hx])
  clear hx hxb
  go_wp2
  (try simp only [Exit.inBlock, Exit.then])
  refine bodyPost_ret (results_ct rfl _ rfl (run_loadVar_row _ sr _ 86 _ _ _ (cells3 (.bool x.neg) (.int .u64 (x.hi : Int)) (.int .u64 (x.lo : Int)) HR1.out) Tryz.underlying86 rfl (by kernel_rfl))) rfl ?_
  exact ⟨by rw [G.out]; rfl, ((HK1.out.setCell_new (p := ⟨sr, 0, none⟩) (by show _ ≤ sr; have := HSR.out; have := HSE.out; omega) _).setCell_new (p := ⟨sr, 1, none⟩) (by show _ ≤ sr; have := HSR.out; have := HSE.out; omega) _).setCell_new (p := ⟨sr, 2, none⟩) (by show _ ≤ sr; have := HSR.out; have := HSE.out; omega) _⟩
end Go.Proofs.YtlhdofkgcbmnnaaGreat

namespace Go.Proofs.YtlhdofkgcbmnnaaGreat
open Go.RowKit Go.Proofs.Heap Go.Proofs.Sch Go.Proofs.Wide

theorem ofM_nat {n : Nat} (h : n < 18446744073709551616) : ofM false n = ⟨false, 0, n⟩ := by
  unfold ofM
  rw [Nat.div_eq_of_lt h, Nat.mod_eq_of_lt h]
  rfl
set_option maxRecDepth 20000 in
set_option maxHeartbeats 8000000 in
theorem env_leaf (fs : List (List WI)) (p : Option Addr) (cap : Nat) (pl : Int) (x : Ins) (w : World) (hpl : pl < 9223372036854775808) (hP : YP w w.heap.size p fs) :
    Calls Tryz.prog 106 #[EnvV p fs.length cap pl, InV x] w fun r w' => r = .returned (.tuple #[WV (leafW fs pl x).1, iV (leafW fs pl x).2]) ∧ Keep (fun _ => False) w w' := by
  obtain ⟨R, hR⟩ : ∃ R, leafW fs pl x = R := ⟨_, rfl⟩
  have HRE : Hid ((if x.op = 2 then elemW fs x.a x.b else if x.op = 3 then elemW fs x.a pl else if x.op = 4 then (if pl < 0 then (zW, 3) else (ofM false pl.toNat, 0)) else (x.k, 0)) = R) := hid hR
  rw [hR]
  obtain ⟨w1, hw1, hb1, hb2, hb3, hs1, hk1⟩ := box3 w #[.slice p fs.length cap, .int .i64 pl] (InC x) Z3 97 88 86
  have HK1 := hid hk1; have HR1 := hid hb3
  have HP := hid (fun (wy : World) (hk : Keep (fun _ => False) w wy) => YP.mono (YP.low hP (Low.keep0 hk)) hk.size)
  have hpl2 := hpl
  have HPL := hid hpl
  have e0 := cell_of hb1 (i := 0) (by rfl)
  have e1 := cell_of hb1 (i := 1) (by rfl)
  have s0 := cell_of hb2 (i := 0) (by rfl)
  have s1 := cell_of hb2 (i := 1) (by rfl)
  have s2 := cell_of hb2 (i := 2) (by rfl)
  have s3 := cell_of hb2 (i := 3) (by rfl)
  have s4 := cell_of hb2 (i := 4) (by rfl)
  have s5 := cell_of hb2 (i := 5) (by rfl)
  clear hb1 hb2 hb3 hs1 hk1 hP hR hpl hpl2
  go_enter Tryz.func106, Tryz.ntmps106
  go_upto_region 1 with fail
  rw [← hw1]
  clear hw1
  obtain ⟨sr, hsr⟩ : ∃ sr, w.heap.size + 1 + 1 = sr := ⟨_, rfl⟩
  have HSR : Hid (w.heap.size ≤ sr) := hid (by omega)
  rw [hsr] at HR1 ⊢
  clear hsr
  generalize hsi : w.heap.size + 1 = si at *
  clear hsi
  obtain ⟨op, xa, xb, ⟨kn, kh, kl⟩⟩ := x
  simp only at HRE
  by_cases h2 : op = 2
  · subst h2
    have G : Hid (elemW fs xa xb = R) := hid HRE.out
    clear HRE
    go_wp2_with fail
    refine (env_elem fs p cap pl xa xb w1 (HP.out _ HK1.out)).mono ?_
    rintro r w2 ⟨rfl, hk⟩
    rw [G.out]
    have HK2 := hid (HK1.out.trans hk); have HR2 := hid (hk.get HR1.out id)
    clear hk e0 e1 s0 s1 s2 s3 s4 s5
    have f0 := free_of HR2.out 0
    have f1 := free_of HR2.out 1
    have f2 := free_of HR2.out 2
    have c0 := cell_of HR2.out (i := 0) (by rfl)
    have c1 := cell_of HR2.out (i := 1) (by rfl)
    have c2 := cell_of HR2.out (i := 2) (by rfl)
    go_wp2
    (try simp only [Exit.inBlock, Exit.then])
    refine bodyPost_ret (results_ct rfl _ rfl (run_loadVar_row _ sr _ 86 _ _ _ (cells3 (.bool R.1.neg) (.int .u64 (R.1.hi : Int)) (.int .u64 (R.1.lo : Int)) HR2.out) Tryz.underlying86 rfl (by kernel_rfl))) rfl ?_
    exact ⟨by skip; rfl, ((HK2.out.setCell_new (p := ⟨sr, 0, none⟩) (by show _ ≤ sr; have := HSR.out; omega) _).setCell_new (p := ⟨sr, 1, none⟩) (by show _ ≤ sr; have := HSR.out; omega) _).setCell_new (p := ⟨sr, 2, none⟩) (by show _ ≤ sr; have := HSR.out; omega) _⟩
  have g2 : (op == 2) = false := beq_eq_false_iff_ne.2 h2
  by_cases h3 : op = 3
  · subst h3
    have G : Hid (elemW fs xa pl = R) := hid HRE.out
    clear HRE
    go_wp2_with fail
    refine (env_elem fs p cap pl xa pl w1 (HP.out _ HK1.out)).mono ?_
    rintro r w2 ⟨rfl, hk⟩
    rw [G.out]
    have HK2 := hid (HK1.out.trans hk); have HR2 := hid (hk.get HR1.out id)
    clear hk e0 e1 s0 s1 s2 s3 s4 s5
    have f0 := free_of HR2.out 0
    have f1 := free_of HR2.out 1
    have f2 := free_of HR2.out 2
    have c0 := cell_of HR2.out (i := 0) (by rfl)
    have c1 := cell_of HR2.out (i := 1) (by rfl)
    have c2 := cell_of HR2.out (i := 2) (by rfl)
    go_wp2
    (try simp only [Exit.inBlock, Exit.then])
    refine bodyPost_ret (results_ct rfl _ rfl (run_loadVar_row _ sr _ 86 _ _ _ (cells3 (.bool R.1.neg) (.int .u64 (R.1.hi : Int)) (.int .u64 (R.1.lo : Int)) HR2.out) Tryz.underlying86 rfl (by kernel_rfl))) rfl ?_
    exact ⟨by skip; rfl, ((HK2.out.setCell_new (p := ⟨sr, 0, none⟩) (by show _ ≤ sr; have := HSR.out; omega) _).setCell_new (p := ⟨sr, 1, none⟩) (by show _ ≤ sr; have := HSR.out; omega) _).setCell_new (p := ⟨sr, 2, none⟩) (by show _ ≤ sr; have := HSR.out; omega) _⟩
  have g3 : (op == 3) = false := beq_eq_false_iff_ne.2 h3
  by_cases h4 : op = 4
  · subst h4
    by_cases hn : pl < 0
    · have G : Hid (R = (zW, 3)) := hid (HRE.out.symm.trans (if_pos hn))
      have g5 : decide (pl < 0) = true := decide_eq_true hn
      clear HRE hn
      have f0 := free_of HR1.out 0
      have f1 := free_of HR1.out 1
      have f2 := free_of HR1.out 2
      have c0 := cell_of HR1.out (i := 0) (by rfl)
      have c1 := cell_of HR1.out (i := 1) (by rfl)
      have c2 := cell_of HR1.out (i := 2) (by rfl)
      go_wp2
      (try simp only [Exit.inBlock, Exit.then])
      refine bodyPost_ret (results_ct rfl _ rfl (run_loadVar_row _ sr _ 86 _ _ _ (cells3 (.bool false) (.int .u64 0) (.int .u64 0) HR1.out) Tryz.underlying86 rfl (by kernel_rfl))) rfl ?_
      exact ⟨by rw [G.out]; rfl, ((HK1.out.setCell_new (p := ⟨sr, 0, none⟩) (by show _ ≤ sr; have := HSR.out; omega) _).setCell_new (p := ⟨sr, 1, none⟩) (by show _ ≤ sr; have := HSR.out; omega) _).setCell_new (p := ⟨sr, 2, none⟩) (by show _ ≤ sr; have := HSR.out; omega) _⟩
    · obtain ⟨n, rfl⟩ := Int.eq_ofNat_of_zero_le (a := pl) (by omega)
      have G : Hid (R = (⟨false, 0, n⟩, 0)) := hid (by rw [← HRE.out, if_neg (by decide), if_neg (by decide), if_pos rfl, if_neg hn, Int.toNat_natCast, ofM_nat (by have := HPL.out; omega)])
      have g5 : decide ((n : Int) < 0) = false := decide_eq_false hn
      clear HRE hn
      go_wp2_with fail
      refine (w_of n (by have := HPL.out; omega) w1).mono ?_
      rintro r w2 ⟨rfl, hk⟩
      have HK2 := hid (HK1.out.trans hk); have HR2 := hid (hk.get HR1.out id)
      clear hk e0 e1 s0 s1 s2 s3 s4 s5 g5
      have f0 := free_of HR2.out 0
      have f1 := free_of HR2.out 1
      have f2 := free_of HR2.out 2
      have c0 := cell_of HR2.out (i := 0) (by rfl)
      have c1 := cell_of HR2.out (i := 1) (by rfl)
      have c2 := cell_of HR2.out (i := 2) (by rfl)
      go_wp2
      (try simp only [Exit.inBlock, Exit.then])
      refine bodyPost_ret (results_ct rfl _ rfl (run_loadVar_row _ sr _ 86 _ _ _ (cells3 (.bool false) (.int .u64 ((0 : Nat) : Int)) (.int .u64 (n : Int)) HR2.out) Tryz.underlying86 rfl (by kernel_rfl))) rfl ?_
      exact ⟨by rw [G.out]; rfl, ((HK2.out.setCell_new (p := ⟨sr, 0, none⟩) (by show _ ≤ sr; have := HSR.out; omega) _).setCell_new (p := ⟨sr, 1, none⟩) (by show _ ≤ sr; have := HSR.out; omega) _).setCell_new (p := ⟨sr, 2, none⟩) (by show _ ≤ sr; have := HSR.out; omega) _⟩
  have g4 : (op == 4) = false := beq_eq_false_iff_ne.2 h4
  have G : Hid (R = (⟨kn, kh, kl⟩, 0)) := hid (by rw [← HRE.out, if_neg h2, if_neg h3, if_neg h4])
  clear HRE h2 h3 h4
  have f0 := free_of HR1.out 0
  have f1 := free_of HR1.out 1
  have f2 := free_of HR1.out 2
  have c0 := cell_of HR1.out (i := 0) (by rfl)
  have c1 := cell_of HR1.out (i := 1) (by rfl)
  have c2 := cell_of HR1.out (i := 2) (by rfl)
  go_wp2
  (try simp only [Exit.inBlock, Exit.then])
  refine bodyPost_ret (results_ct rfl _ rfl (run_loadVar_row _ sr _ 86 _ _ _ (cells3 (.bool (⟨kn, kh, kl⟩ : WI).neg) (.int .u64 ((⟨kn, kh, kl⟩ : WI).hi : Int)) (.int .u64 ((⟨kn, kh, kl⟩ : WI).lo : Int)) HR1.out) Tryz.underlying86 rfl (by kernel_rfl))) rfl ?_
  exact ⟨by rw [G.out]; rfl, ((HK1.out.setCell_new (p := ⟨sr, 0, none⟩) (by show _ ≤ sr; have := HSR.out; omega) _).setCell_new (p := ⟨sr, 1, none⟩) (by show _ ≤ sr; have := HSR.out; omega) _).setCell_new (p := ⟨sr, 2, none⟩) (by show _ ≤ sr; have := HSR.out; omega) _⟩
end Go.Proofs.YtlhdofkgcbmnnaaGreat

namespace Go.Proofs.YtlhdofkgcbmnnaaGreat
open Go.RowKit Go.Proofs.Heap Go.Proofs.Sch Go.Proofs.Wide

/-- The error of an element that a formula of a field uses. -/
def useC (old : Cmp) (f : Fld) (x : Ins) : Nat :=
  match old.fs[x.a.toNat]? with
  | none => 3
  | some g => if (x.op = 2 ∧ g.count ≤ x.b) ∨ (x.op = 3 ∧ g.count < f.count) then 3 else if decide (g.kind = 10) = decide (f.kind = 10) then 0 else 8
/-- Whether a formula answers a handle. -/
def handleB : List Ins → Bool
  | [x] => decide (x.op ≠ 4) && (decide (x.op ≠ 1) || (!x.k.neg && (decide (x.k.hi = 0) && decide (x.k.lo = 0))))
  | _ => false

set_option maxRecDepth 20000 in
set_option maxHeartbeats 4000000 in
theorem chk_use (old : Cmp) (f : Fld) (x : Ins) (p : Option Addr) (cap : Nat) (w : World) (ha : 0 ≤ x.a) (hl : old.fs.length ≤ 4398046511104) (hf : FP w w.heap.size p old.fs) :
    Calls Tryz.prog 144 #[.agg #[.int .i64 old.id, .string old.name, .slice p old.fs.length cap], .agg #[.string f.name, .int .i64 f.kind, .int .i64 f.count], InV x] w fun r w' => r = .returned (iV (useC old f x)) ∧ Keep (fun _ => False) w w' := by
  obtain ⟨oi, on, fs⟩ := old
  obtain ⟨fn, fk, fc⟩ := f
  obtain ⟨op, xa, xb, ⟨kn, kh, kl⟩⟩ := x
  simp only at ha hl hf
  obtain ⟨an, rfl⟩ := Int.eq_ofNat_of_zero_le ha
  obtain ⟨w3, hw3, hb1, hb2, hb3, hk3⟩ : ∃ w3, w3 = ((w.alloc (.cells #[.int .i64 oi, .string on, .slice p fs.length cap] 24)).alloc (.cells #[.string fn, .int .i64 fk, .int .i64 fc] 83)).alloc (.cells #[.int .i64 op, .int .i64 (an : Int), .int .i64 xb, .bool kn, .int .u64 (kh : Int), .int .u64 (kl : Int)] 88) ∧
      w3.heap[w.heap.size]? = some (.cells #[.int .i64 oi, .string on, .slice p fs.length cap] 24 (0, 0)) ∧ w3.heap[w.heap.size + 1]? = some (.cells #[.string fn, .int .i64 fk, .int .i64 fc] 83 (0, 0)) ∧
      w3.heap[w.heap.size + 1 + 1]? = some (.cells #[.int .i64 op, .int .i64 (an : Int), .int .i64 xb, .bool kn, .int .u64 (kh : Int), .int .u64 (kl : Int)] 88 (0, 0)) ∧ Keep (fun _ => False) w w3 := by
    refine ⟨_, rfl, ?_, ?_, ?_, (((Keep.refl _ w).alloc _).alloc _).alloc _⟩
    · exact (((Keep.refl (fun _ => False) (w.alloc (.cells #[.int .i64 oi, .string on, .slice p fs.length cap] 24))).alloc _).alloc _).get (heap_alloc_new w _) id
    · have := ((Keep.refl (fun _ => False) ((w.alloc (.cells #[.int .i64 oi, .string on, .slice p fs.length cap] 24)).alloc (.cells #[.string fn, .int .i64 fk, .int .i64 fc] 83))).alloc (.cells #[.int .i64 op, .int .i64 (an : Int), .int .i64 xb, .bool kn, .int .u64 (kh : Int), .int .u64 (kl : Int)] 88)).get (heap_alloc_new (w.alloc (.cells #[.int .i64 oi, .string on, .slice p fs.length cap] 24)) _) id
      simpa using this
    · have := heap_alloc_new ((w.alloc (.cells #[.int .i64 oi, .string on, .slice p fs.length cap] 24)).alloc (.cells #[.string fn, .int .i64 fk, .int .i64 fc] 83)) (.cells #[.int .i64 op, .int .i64 (an : Int), .int .i64 xb, .bool kn, .int .u64 (kh : Int), .int .u64 (kl : Int)] 88)
      simpa using this
  have HB1 := hid hb1; have HB2 := hid hb2; have HB3 := hid hb3; have HK := hid hk3
  have HF := hid (FP.mono (FP.low hf (Low.keep0 hk3)) hk3.size)
  clear hb1 hb2 hb3 hk3 hf ha
  go_enter Tryz.func144, Tryz.ntmps144
  go_upto_region 1 with fail
  rw [← hw3]
  clear hw3
  generalize w.heap.size = sb at *
  have d2 : w3.cell? ⟨sb, 2, none⟩ = some (.slice p fs.length cap) := cell_of HB1.out (by rfl)
  have x0 : w3.cell? ⟨sb + 1 + 1, 0, none⟩ = some (.int .i64 op) := cell_of HB3.out (by rfl)
  have x1 : w3.cell? ⟨sb + 1 + 1, 1, none⟩ = some (.int .i64 (an : Int)) := cell_of HB3.out (by rfl)
  have x2 : w3.cell? ⟨sb + 1 + 1, 2, none⟩ = some (.int .i64 xb) := cell_of HB3.out (by rfl)
  by_cases hlt : an < fs.length
  rotate_left
  · have g1 : decide ((fs.length : Int) ≤ (an : Int)) = true := decide_eq_true (by omega)
    have g2 : decide (fs.length ≤ an) = true := decide_eq_true (by omega)
    have G : Hid (useC ⟨oi, on, fs⟩ ⟨fn, fk, fc⟩ ⟨op, (an : Int), xb, ⟨kn, kh, kl⟩⟩ = 3) := hid (by
      unfold useC; simp only [Int.toNat_natCast]; rw [List.getElem?_eq_none (by omega)])
    go_wp2
    go_ret
    exact ⟨by rw [G.out]; rfl, HK.out⟩
  have g1 : decide ((fs.length : Int) ≤ (an : Int)) = false := decide_eq_false (by omega)
  have g2 : decide (fs.length ≤ an) = false := decide_eq_false (by omega)
  obtain ⟨g, hg⟩ : ∃ g, fs[an]? = some g := ⟨fs[an], by simp [hlt]⟩
  have HU : Hid (useC ⟨oi, on, fs⟩ ⟨fn, fk, fc⟩ ⟨op, (an : Int), xb, ⟨kn, kh, kl⟩⟩ = if (op = 2 ∧ g.count ≤ xb) ∨ (op = 3 ∧ g.count < fc) then 3 else if decide (g.kind = 10) = decide (fk = 10) then 0 else 8) := hid (by
    unfold useC; simp only [Int.toNat_natCast]; rw [hg])
  obtain ⟨b, off, rfl, hb, c0, c1, c2⟩ := FP.at HF.out hg
  have hin : (0 : Int) ≤ (an : Int) ∧ (an : Int) < (fs.length : Int) := ⟨by omega, by omega⟩
  clear hg hb
  obtain ⟨gn, gk, gc⟩ := g
  simp only at c0 c1 c2 HU
  have HBG := hid (heap_alloc_new w3 (.cells #[.string gn, .int .i64 gk, .int .i64 gc] 83))
  have hkg := (Keep.refl (fun _ => False) w3).alloc (.cells #[.string gn, .int .i64 gk, .int .i64 gc] 83)
  have HB2' := hid (hkg.get HB2.out id); have HB3' := hid (hkg.get HB3.out id)
  have HKG := hid (HK.out.trans hkg)
  clear hkg
  go_upto_region 4 with fail
  generalize w3.alloc (.cells #[.string gn, .int .i64 gk, .int .i64 gc] 83) = w4 at *
  generalize w3.heap.size = gb at *
  clear d2 x0 x1 x2 c0 c1 c2 g1 g2
  have x0 : w4.cell? ⟨sb + 1 + 1, 0, none⟩ = some (.int .i64 op) := cell_of HB3'.out (by rfl)
  have x2 : w4.cell? ⟨sb + 1 + 1, 2, none⟩ = some (.int .i64 xb) := cell_of HB3'.out (by rfl)
  have f1 : w4.cell? ⟨sb + 1, 1, none⟩ = some (.int .i64 fk) := cell_of HB2'.out (by rfl)
  have f2 : w4.cell? ⟨sb + 1, 2, none⟩ = some (.int .i64 fc) := cell_of HB2'.out (by rfl)
  have y1 : w4.cell? ⟨gb, 1, none⟩ = some (.int .i64 gk) := cell_of HBG.out (by rfl)
  have y2 : w4.cell? ⟨gb, 2, none⟩ = some (.int .i64 gc) := cell_of HBG.out (by rfl)
  go_cut [20] from 8 to 50 (fun r wx => r = .bool (decide ((op = 2 ∧ gc ≤ xb) ∨ (op = 3 ∧ gc < fc))) ∧ w4 = wx)
  case first =>
    by_cases h2 : op = 2
    · subst h2
      by_cases hle : gc ≤ xb
      · have q1 : decide (gc ≤ xb) = true := decide_eq_true hle
        have G : Hid (decide (((2 : Int) = 2 ∧ gc ≤ xb) ∨ ((2 : Int) = 3 ∧ gc < fc)) = true) := hid (decide_eq_true (.inl ⟨rfl, hle⟩))
        go_wp2
        go_meet
        case rel => exact ⟨by rw [G.out], rfl⟩
      · have q1 : decide (gc ≤ xb) = false := decide_eq_false hle
        have G : Hid (decide (((2 : Int) = 2 ∧ gc ≤ xb) ∨ ((2 : Int) = 3 ∧ gc < fc)) = false) := hid (decide_eq_false (by omega))
        go_wp2
        go_meet
        case rel => exact ⟨by rw [G.out], rfl⟩
    · have g2 : (op == 2) = false := beq_eq_false_iff_ne.2 h2
      by_cases h3 : op = 3
      · subst h3
        by_cases hle : gc < fc
        · have q1 : decide (gc < fc) = true := decide_eq_true hle
          have G : Hid (decide (((3 : Int) = 2 ∧ gc ≤ xb) ∨ ((3 : Int) = 3 ∧ gc < fc)) = true) := hid (decide_eq_true (.inr ⟨rfl, hle⟩))
          go_wp2
          go_meet
          case rel => exact ⟨by rw [G.out], rfl⟩
        · have q1 : decide (gc < fc) = false := decide_eq_false hle
          have G : Hid (decide (((3 : Int) = 2 ∧ gc ≤ xb) ∨ ((3 : Int) = 3 ∧ gc < fc)) = false) := hid (decide_eq_false (by omega))
          go_wp2
          go_meet
          case rel => exact ⟨by rw [G.out], rfl⟩
      · have g3 : (op == 3) = false := beq_eq_false_iff_ne.2 h3
        have G : Hid (decide ((op = 2 ∧ gc ≤ xb) ∨ (op = 3 ∧ gc < fc)) = false) := hid (decide_eq_false (by omega))
        go_wp2
        go_meet
        case rel => exact ⟨by rw [G.out], rfl⟩
  case rest =>
  obtain ⟨rfl, rfl⟩ := hcut
  by_cases hc : (op = 2 ∧ gc ≤ xb) ∨ (op = 3 ∧ gc < fc)
  · rw [decide_eq_true hc]
    have G := hid (HU.out.trans (if_pos hc))
    clear hc
    go_wp2
    go_ret
    exact ⟨by rw [G.out]; rfl, HKG.out⟩
  rw [decide_eq_false hc]
  have HU2 : Hid (useC ⟨oi, on, fs⟩ ⟨fn, fk, fc⟩ ⟨op, (an : Int), xb, ⟨kn, kh, kl⟩⟩ = if decide (gk = 10) = decide (fk = 10) then 0 else 8) := hid (by rw [HU.out, if_neg hc])
  clear hc HU
  by_cases h1 : gk = 10
  · have q1 : (gk == 10) = true := beq_iff_eq.2 h1
    by_cases h2 : fk = 10
    · have q2 : (fk == 10) = true := beq_iff_eq.2 h2
      have G := hid (HU2.out.trans (show _ = 0 by rw [decide_eq_true h1, decide_eq_true h2]; rfl))
      go_wp2
      go_ret
      exact ⟨by rw [G.out]; rfl, HKG.out⟩
    · have q2 : (fk == 10) = false := beq_eq_false_iff_ne.2 h2
      have G := hid (HU2.out.trans (show _ = 8 by rw [decide_eq_true h1, decide_eq_false h2]; rfl))
      go_wp2
      go_ret
      exact ⟨by rw [G.out]; rfl, HKG.out⟩
  · have q1 : (gk == 10) = false := beq_eq_false_iff_ne.2 h1
    by_cases h2 : fk = 10
    · have q2 : (fk == 10) = true := beq_iff_eq.2 h2
      have G := hid (HU2.out.trans (show _ = 8 by rw [decide_eq_false h1, decide_eq_true h2]; rfl))
      go_wp2
      go_ret
      exact ⟨by rw [G.out]; rfl, HKG.out⟩
    · have q2 : (fk == 10) = false := beq_eq_false_iff_ne.2 h2
      have G := hid (HU2.out.trans (show _ = 0 by rw [decide_eq_false h1, decide_eq_false h2]; rfl))
      go_wp2
      go_ret
      exact ⟨by rw [G.out]; rfl, HKG.out⟩
end Go.Proofs.YtlhdofkgcbmnnaaGreat

namespace Go.Proofs.YtlhdofkgcbmnnaaGreat
open Go.RowKit Go.Proofs.Heap Go.Proofs.Sch Go.Proofs.Wide

theorem exprRun_all : ∀ (code : List Ins) (n : Nat), exprRun n code = 0 → ∀ x ∈ code, insB x = true
  | [], _, _, x, hx => by simp at hx
  | y :: r, n, h, x, hx => by
    rw [exprRun_cons] at h
    by_cases h1 : insB y = false ∨ n < argsN y.op
    · rw [if_pos h1] at h; omega
    · rw [if_neg h1] at h
      by_cases h2 : 16 < n - argsN y.op + 1
      · rw [if_pos h2] at h; omega
      · rw [if_neg h2] at h
        rcases List.mem_cons.1 hx with rfl | hx
        · cases e : insB x
          · exact absurd (.inl e) h1
          · rfl
        · exact exprRun_all r _ h x hx
theorem exprC_all {code : List Ins} (h : exprC code = 0) : code ≠ [] ∧ code.length ≤ 64 ∧ ∀ x ∈ code, insB x = true := by
  unfold exprC at h
  by_cases h1 : 64 < code.length
  · rw [if_pos h1] at h; omega
  · rw [if_neg h1] at h
    refine ⟨fun e => ?_, by omega, exprRun_all code 0 h⟩
    subst e
    simp [exprRun] at h
theorem insB_a {x : Ins} (h : insB x = true) : (0 ≤ x.a ∧ x.a < 8) ∧ (0 ≤ x.b ∧ x.b < 8) ∧ x.k.form = true := by
  unfold insB at h
  simp at h
  obtain ⟨_, h2, h3⟩ := h
  exact ⟨by omega, by omega, h2⟩

/-- The error of the elements that are left. -/
def errU (old : Cmp) (f : Fld) : List Ins → Nat
  | [] => 0
  | x :: r => if useC old f x = 0 then errU old f r else useC old f x
/-- The error of a field's formula. -/
def formC (old : Cmp) (f : Fld) (code : List Ins) : Nat :=
  if exprC code = 0 then (if errU old f (usesL code) = 0 then (if f.kind = 10 ∧ handleB code = false then 8 else 0) else errU old f (usesL code)) else exprC code

set_option maxRecDepth 20000 in
set_option maxHeartbeats 4000000 in
theorem is_handle (code : List Ins) (p : Option Addr) (cap : Nat) (w : World) (hne : code ≠ []) (hl : code.length ≤ 65536) (hf : IP w w.heap.size p code) :
    Calls Tryz.prog 145 #[.slice p code.length cap] w fun r w' => r = .returned (.bool (handleB code)) ∧ Keep (fun _ => False) w w' := by
  obtain ⟨x, r, rfl⟩ : ∃ x r, code = x :: r := by cases code with | nil => exact absurd rfl hne | cons x r => exact ⟨x, r, rfl⟩
  obtain ⟨b, off, rfl, hb, c0, c1, c2, c3, c4, c5⟩ := IP.at hf (i := 0) (x := x) rfl
  have hin : (0 : Int) ≤ 0 ∧ (0 : Int) < ((x :: r).length : Int) := ⟨by omega, by simp⟩
  obtain ⟨op, xa, xb, ⟨kn, kh, kl⟩⟩ := x
  simp only at c0 c1 c2 c3 c4 c5
  rw [Nat.zero_mul, Nat.add_zero] at c0 c1 c2 c3 c4 c5
  have HBX := hid (heap_alloc_new w (.cells #[.int .i64 op, .int .i64 xa, .int .i64 xb, .bool kn, .int .u64 (kh : Int), .int .u64 (kl : Int)] 88))
  have HK := hid ((Keep.refl (fun _ => False) w).alloc (.cells #[.int .i64 op, .int .i64 xa, .int .i64 xb, .bool kn, .int .u64 (kh : Int), .int .u64 (kl : Int)] 88))
  have HLR : Hid ((((⟨op, xa, xb, ⟨kn, kh, kl⟩⟩ : Ins) :: r).length = 1 ↔ r = [])) := hid (by cases r <;> simp)
  have HH1 : Hid (r = [] → handleB (⟨op, xa, xb, ⟨kn, kh, kl⟩⟩ :: r) = (decide (op ≠ 4) && (decide (op ≠ 1) || (!kn && (decide (kh = 0) && decide (kl = 0)))))) := hid (fun e => by subst e; rfl)
  have HH2 : Hid (r ≠ [] → handleB (⟨op, xa, xb, ⟨kn, kh, kl⟩⟩ :: r) = false) := hid (fun e => by cases r with | nil => exact absurd rfl e | cons y s => rfl)
  clear hne hf hb
  generalize hn : ((⟨op, xa, xb, ⟨kn, kh, kl⟩⟩ : Ins) :: r).length = n at *
  clear hn
  go_enter Tryz.func145, Tryz.ntmps145
  go_upto_region 2 with fail
  generalize w.alloc (.cells #[.int .i64 op, .int .i64 xa, .int .i64 xb, .bool kn, .int .u64 (kh : Int), .int .u64 (kl : Int)] 88) = w1 at *
  generalize w.heap.size = sb at *
  clear c0 c1 c2 c3 c4 c5
  have s0 : w1.cell? ⟨sb, 0, none⟩ = some (.int .i64 op) := cell_of HBX.out (by rfl)
  have s3 : w1.cell? ⟨sb, 3, none⟩ = some (.bool kn) := cell_of HBX.out (by rfl)
  have s4 : w1.cell? ⟨sb, 4, none⟩ = some (.int .u64 (kh : Int)) := cell_of HBX.out (by rfl)
  have s5 : w1.cell? ⟨sb, 5, none⟩ = some (.int .u64 (kl : Int)) := cell_of HBX.out (by rfl)
  by_cases h1 : n = 1
  rotate_left
  · have g1 : ((n : Int) == 1) = false := beq_eq_false_iff_ne.2 (by omega)
    have g2 : (n == 1) = false := beq_eq_false_iff_ne.2 h1
    have G := hid (HH2.out (fun e => h1 (HLR.out.2 e)))
    go_wp2
    go_ret
    exact ⟨by rw [G.out]; rfl, HK.out⟩
  have H1 := hid (HH1.out (HLR.out.1 h1))
  subst h1
  by_cases h4 : op = 4
  · subst h4
    go_wp2
    go_ret
    exact ⟨by rw [H1.out]; rfl, HK.out⟩
  have g4 : (op != 4) = true := by simp only [bne, beq_eq_false_iff_ne.2 h4]; rfl
  have g4' : (op == 4) = false := beq_eq_false_iff_ne.2 h4
  have H4 := hid (decide_eq_true (show op ≠ 4 from h4))
  by_cases h5 : op = 1
  rotate_left
  · have g5 : (op != 1) = true := by simp only [bne, beq_eq_false_iff_ne.2 h5]; rfl
    have g5' : (op == 1) = false := beq_eq_false_iff_ne.2 h5
    have H5 := hid (decide_eq_true (show op ≠ 1 from h5))
    go_wp2
    go_ret
    exact ⟨by rw [H1.out, H4.out, H5.out]; rfl, HK.out⟩
  have HZ : Hid (handleB (⟨op, xa, xb, ⟨kn, kh, kl⟩⟩ :: r) = (!kn && (decide (kh = 0) && decide (kl = 0)))) := hid (by rw [H1.out, H4.out, decide_eq_false (by simpa using h5)]; rfl)
  subst h5
  clear H1 H4
  cases kn
  · by_cases hh : kh = 0
    · subst hh
      by_cases hk0 : kl = 0
      · subst hk0
        go_wp2
        go_ret
        exact ⟨by rw [HZ.out]; rfl, HK.out⟩
      · have q1 : ((kl : Int) == 0) = false := beq_eq_false_iff_ne.2 (by omega)
        have q2 : (kl == 0) = false := beq_eq_false_iff_ne.2 hk0
        have G := hid (HZ.out.trans (show _ = false by rw [decide_eq_false hk0]; rfl))
        go_wp2
        go_ret
        exact ⟨by rw [G.out]; rfl, HK.out⟩
    · have q1 : ((kh : Int) == 0) = false := beq_eq_false_iff_ne.2 (by omega)
      have q2 : (kh == 0) = false := beq_eq_false_iff_ne.2 hh
      have G := hid (HZ.out.trans (show _ = false by rw [decide_eq_false hh]; rfl))
      go_wp2
      go_ret
      exact ⟨by rw [G.out]; rfl, HK.out⟩
  · go_wp2
    go_ret
    exact ⟨by rw [HZ.out]; rfl, HK.out⟩

set_option maxRecDepth 20000 in
set_option maxHeartbeats 4000000 in
theorem chk_formula (old : Cmp) (f : Fld) (code : List Ins) (p : Option Addr) (cap : Nat) (q : Option Addr) (qc : Nat) (w : World) (hl : old.fs.length ≤ 4398046511104) (hfit : ∀ x ∈ code, x.k.fit) (hf : FP w w.heap.size p old.fs) (hc : IP w w.heap.size q code) :
    Calls Tryz.prog 102 #[.agg #[.int .i64 old.id, .string old.name, .slice p old.fs.length cap], .agg #[.string f.name, .int .i64 f.kind, .int .i64 f.count], .slice q code.length qc] w fun r w' => r = .returned (iV (formC old f code)) ∧ Keep (fun _ => False) w w' := by
  obtain ⟨oi, on, fs⟩ := old
  obtain ⟨fn, fk, fc⟩ := f
  simp only at hl hf
  have hb1 := heap_alloc_new w (.cells #[.int .i64 oi, .string on, .slice p fs.length cap] 24)
  have hb2 := heap_alloc_new (w.alloc (.cells #[.int .i64 oi, .string on, .slice p fs.length cap] 24)) (.cells #[.string fn, .int .i64 fk, .int .i64 fc] 83)
  have e1 : (w.alloc (.cells #[.int .i64 oi, .string on, .slice p fs.length cap] 24)).heap.size = w.heap.size + 1 := by simp
  have hb1' := ((Keep.refl (fun _ => False) (w.alloc (.cells #[.int .i64 oi, .string on, .slice p fs.length cap] 24))).alloc (.cells #[.string fn, .int .i64 fk, .int .i64 fc] 83)).get hb1 id
  rw [e1] at hb2
  have hk := ((Keep.refl (fun _ => False) w).alloc (.cells #[.int .i64 oi, .string on, .slice p fs.length cap] 24)).alloc (.cells #[.string fn, .int .i64 fk, .int .i64 fc] 83)
  have HA := hid hb1'; have HB := hid hb2; have HK0 := hid hk
  have HF0 := hid (FP.mono (FP.low hf (Low.keep0 hk)) hk.size)
  have HC0 := hid (IP.mono (IP.low hc (Low.keep0 hk)) hk.size)
  have HX := hid hfit; have HL := hid hl
  clear hb1 hb2 hb1' e1 hk hf hc hfit
  go_enter Tryz.func102, Tryz.ntmps102
  go_upto_region 1 with fail
  generalize (w.alloc (.cells #[.int .i64 oi, .string on, .slice p fs.length cap] 24)).alloc (.cells #[.string fn, .int .i64 fk, .int .i64 fc] 83) = w0 at *
  generalize w.heap.size = sb at *
  have HW : Hid (∀ wy, Keep (fun _ => False) w0 wy → (wy.cell? ⟨sb, 0, none⟩ = some (.int .i64 oi) ∧ wy.cell? ⟨sb, 1, none⟩ = some (.string on) ∧ wy.cell? ⟨sb, 2, none⟩ = some (.slice p fs.length cap)) ∧ (wy.cell? ⟨sb + 1, 0, none⟩ = some (.string fn) ∧ wy.cell? ⟨sb + 1, 1, none⟩ = some (.int .i64 fk) ∧ wy.cell? ⟨sb + 1, 2, none⟩ = some (.int .i64 fc))) := hid (fun wy hk =>
    ⟨⟨cell_of (hk.get HA.out id) (by rfl), cell_of (hk.get HA.out id) (by rfl), cell_of (hk.get HA.out id) (by rfl)⟩, cell_of (hk.get HB.out id) (by rfl), cell_of (hk.get HB.out id) (by rfl), cell_of (hk.get HB.out id) (by rfl)⟩)
  have HD : Hid (∀ wy, Keep (fun _ => False) w0 wy → FP wy wy.heap.size p fs ∧ IP wy wy.heap.size q code) := hid (fun wy hk => ⟨FP.mono (FP.low HF0.out (Low.keep0 hk)) hk.size, IP.mono (IP.low HC0.out (Low.keep0 hk)) hk.size⟩)
  go_wp2_with fail
  refine (expr_check code q qc _ HX.out HC0.out).mono ?_
  rintro r w1 ⟨rfl, hk1⟩
  have HK1 := hid hk1
  clear hk1
  by_cases hz : exprC code = 0
  rotate_left
  · have G : Hid (formC ⟨oi, on, fs⟩ ⟨fn, fk, fc⟩ code = exprC code) := hid (by unfold formC; rw [if_neg hz])
    generalize exprC code = e at *
    have g1 : ((e : Int) != 0) = true := by simp only [bne, beq_eq_false_iff_ne.2 (show (e : Int) ≠ 0 by omega)]; rfl
    have g2 : (e != 0) = true := by simp only [bne, beq_eq_false_iff_ne.2 hz]; rfl
    go_wp2
    go_ret
    exact ⟨by rw [G.out]; rfl, HK0.out.trans HK1.out⟩
  have HALL := hid (exprC_all hz)
  have HFC : Hid (formC ⟨oi, on, fs⟩ ⟨fn, fk, fc⟩ code = if errU ⟨oi, on, fs⟩ ⟨fn, fk, fc⟩ (usesL code) = 0 then (if fk = 10 ∧ handleB code = false then 8 else 0) else errU ⟨oi, on, fs⟩ ⟨fn, fk, fc⟩ (usesL code)) := hid (by unfold formC; rw [if_pos hz])
  rw [hz]
  clear hz
  have hcl : code.length ≤ 65536 := by have := HALL.out.2.1; omega
  go_wp2_with fail
  refine (expr_uses code q qc _ hcl (HD.out _ HK1.out).2).mono ?_
  rintro r w2 ⟨uq, uc, rfl, hui, hk2⟩
  have HK2 := hid (HK1.out.trans hk2)
  have HUI : Hid (∀ wy, Keep (fun _ => False) w2 wy → IP wy wy.heap.size uq (usesL code)) := hid (fun wy hk => IP.mono (IP.low hui (Low.keep0 hk)) hk.size)
  have HUA : Hid (∀ x ∈ usesL code, 0 ≤ x.a) := hid (fun x hx => (insB_a (HALL.out.2.2 x (List.mem_filter.1 hx).1)).1.1)
  have HUL : Hid ((usesL code).length ≤ 65536) := hid (Nat.le_trans (List.length_filter_le _ _) hcl)
  clear hk2 hui
  generalize usesL code = us at *
  have hul := HUL.out
  go_wp2_with fail
  go_loopw [9, 10, 19] (fun _ _ i wr => ∃ k : Nat, k ≤ us.length ∧ i = iV k ∧ errU ⟨oi, on, fs⟩ ⟨fn, fk, fc⟩ us = errU ⟨oi, on, fs⟩ ⟨fn, fk, fc⟩ (us.drop k) ∧ Keep (fun _ => False) w2 wr) (fun _ _ i _ => us.length + 1 - (intOf i).toNat)
  case atStart => exact ⟨0, Nat.zero_le _, rfl, rfl, Keep.refl _ _⟩
  case round =>
    obtain ⟨k, hk, rfl, heq, hkr⟩ := hrel
    have HEQ := hid heq; have HKR := hid hkr
    clear heq hkr
    by_cases hlt : k < us.length
    · obtain ⟨x, hxk⟩ : ∃ x, us[k]? = some x := ⟨us[k], by simp [hlt]⟩
      have HEX := hid (show errU ⟨oi, on, fs⟩ ⟨fn, fk, fc⟩ us = if useC ⟨oi, on, fs⟩ ⟨fn, fk, fc⟩ x = 0 then errU ⟨oi, on, fs⟩ ⟨fn, fk, fc⟩ (us.drop (k + 1)) else useC ⟨oi, on, fs⟩ ⟨fn, fk, fc⟩ x by rw [HEQ.out, drop_next hxk]; rfl)
      have HXA := hid (HUA.out x (List.mem_of_getElem? hxk))
      obtain ⟨b, off, rfl, hb, c0, c1, c2, c3, c4, c5⟩ := IP.at (HUI.out _ HKR.out) hxk
      have hin : (0 : Int) ≤ (k : Int) ∧ (k : Int) < (us.length : Int) := ⟨by omega, by omega⟩
      clear hxk hb HEQ
      obtain ⟨op, xa, xb, ⟨kn, kh, kl⟩⟩ := x
      simp only at c0 c1 c2 c3 c4 c5 HXA
      have HBX := hid (heap_alloc_new wr (.cells #[.int .i64 op, .int .i64 xa, .int .i64 xb, .bool kn, .int .u64 (kh : Int), .int .u64 (kl : Int)] 88))
      have HK3 := hid (HKR.out.alloc (.cells #[.int .i64 op, .int .i64 xa, .int .i64 xb, .bool kn, .int .u64 (kh : Int), .int .u64 (kl : Int)] 88))
      go_upto_region 7 with fail
      generalize wr.alloc (.cells #[.int .i64 op, .int .i64 xa, .int .i64 xb, .bool kn, .int .u64 (kh : Int), .int .u64 (kl : Int)] 88) = w3 at *
      generalize wr.heap.size = xbk at *
      clear c0 c1 c2 c3 c4 c5
      have s0 : w3.cell? ⟨xbk, 0, none⟩ = some (.int .i64 op) := cell_of HBX.out (by rfl)
      have s1 : w3.cell? ⟨xbk, 1, none⟩ = some (.int .i64 xa) := cell_of HBX.out (by rfl)
      have s2 : w3.cell? ⟨xbk, 2, none⟩ = some (.int .i64 xb) := cell_of HBX.out (by rfl)
      have s3 : w3.cell? ⟨xbk, 3, none⟩ = some (.bool kn) := cell_of HBX.out (by rfl)
      have s4 : w3.cell? ⟨xbk, 4, none⟩ = some (.int .u64 (kh : Int)) := cell_of HBX.out (by rfl)
      have s5 : w3.cell? ⟨xbk, 5, none⟩ = some (.int .u64 (kl : Int)) := cell_of HBX.out (by rfl)
      obtain ⟨⟨t0, t1, t2⟩, t3, t4, t5⟩ := HW.out _ (HK2.out.trans HK3.out)
      go_wp2_with fail
      refine (chk_use ⟨oi, on, fs⟩ ⟨fn, fk, fc⟩ ⟨op, xa, xb, ⟨kn, kh, kl⟩⟩ p cap _ HXA.out HL.out (HD.out _ (HK2.out.trans HK3.out)).1).mono ?_
      rintro r w4 ⟨rfl, hk4⟩
      have HK4 := hid (HK3.out.trans hk4)
      clear hk4 s0 s1 s2 s3 s4 s5 t0 t1 t2 t3 t4 t5
      by_cases hz : useC ⟨oi, on, fs⟩ ⟨fn, fk, fc⟩ ⟨op, xa, xb, ⟨kn, kh, kl⟩⟩ = 0
      · have G := hid (HEX.out.trans (if_pos hz))
        rw [hz]
        clear hz
        go_wp2
        go_roundw
        case rel => exact ⟨k + 1, by omega, by go_num, G.out, HK4.out⟩
        case measure => simp [intOf]; omega
      · have G := hid (HEX.out.trans (if_neg hz))
        have G2 : Hid (formC ⟨oi, on, fs⟩ ⟨fn, fk, fc⟩ code = useC ⟨oi, on, fs⟩ ⟨fn, fk, fc⟩ ⟨op, xa, xb, ⟨kn, kh, kl⟩⟩) := hid (by rw [HFC.out, G.out, if_neg hz])
        clear HEX G
        generalize useC ⟨oi, on, fs⟩ ⟨fn, fk, fc⟩ ⟨op, xa, xb, ⟨kn, kh, kl⟩⟩ = e at *
        have g1 : ((e : Int) != 0) = true := by simp only [bne, beq_eq_false_iff_ne.2 (show (e : Int) ≠ 0 by omega)]; rfl
        have g2 : (e != 0) = true := by simp only [bne, beq_eq_false_iff_ne.2 hz]; rfl
        go_wp2
        go_ret
        exact ⟨by rw [G2.out]; rfl, HK0.out.trans (HK2.out.trans HK4.out)⟩
    · obtain rfl : k = us.length := by omega
      have HE0 : Hid (errU ⟨oi, on, fs⟩ ⟨fn, fk, fc⟩ us = 0) := hid (by rw [HEQ.out, List.drop_length]; rfl)
      have HF2 := hid (HFC.out.trans (if_pos HE0.out))
      have g0 : decide ((us.length : Int) < (us.length : Int)) = false := decide_eq_false (by omega)
      obtain ⟨⟨t0, t1, t2⟩, t3, t4, t5⟩ := HW.out _ (HK2.out.trans HKR.out)
      by_cases h10 : fk = 10
      rotate_left
      · have g1 : (fk == 10) = false := beq_eq_false_iff_ne.2 h10
        have G := hid (HF2.out.trans (if_neg (fun h => h10 h.1)))
        go_wp2
        go_ret
        exact ⟨by rw [G.out]; rfl, HK0.out.trans (HK2.out.trans HKR.out)⟩
      subst h10
      go_wp2_with fail
      refine (is_handle code q qc _ HALL.out.1 hcl (HD.out _ (HK2.out.trans HKR.out)).2).mono ?_
      rintro r w4 ⟨rfl, hk4⟩
      have HK4 := hid (HKR.out.trans hk4)
      clear hk4 t0 t1 t2 t3 t4 t5 g0
      cases hh : handleB code
      · have G : Hid (formC ⟨oi, on, fs⟩ ⟨fn, 10, fc⟩ code = 8) := hid (HF2.out.trans (by simp [hh]))
        clear hh
        go_wp2
        go_ret
        exact ⟨by rw [G.out]; rfl, HK0.out.trans (HK2.out.trans HK4.out)⟩
      · have G : Hid (formC ⟨oi, on, fs⟩ ⟨fn, 10, fc⟩ code = 0) := hid (HF2.out.trans (by simp [hh]))
        clear hh
        go_wp2
        go_ret
        exact ⟨by rw [G.out]; rfl, HK0.out.trans (HK2.out.trans HK4.out)⟩
end Go.Proofs.YtlhdofkgcbmnnaaGreat

namespace Go.Proofs.YtlhdofkgcbmnnaaGreat
open Go.RowKit Go.Proofs.Heap Go.Proofs.Sch Go.Proofs.Wide

end Go.Proofs.YtlhdofkgcbmnnaaGreat
