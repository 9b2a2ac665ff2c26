/- What is proved: what Check of a formula answers. -/
import Derived.Test.YtlhdofkgcbmnnaaGreatDoorMWide2
import Derived.Test.YtlhdofkgcbmnnaaGreatDoorMHeap
import Derived.Deep.Cut
import Derived.Deep.CutRange
import Derived.Deep.CutBlock
namespace Go.Proofs.YtlhdofkgcbmnnaaGreatDoor
open Go.RowKit Go.Proofs.Heap Go.Proofs.Sch Go.Proofs.Wide

/-- The error of the instructions that are left, n numbers being there. -/
def exprRun : Nat → List Ins → Nat
  | n, [] => if n = 1 then 0 else 4
  | n, x :: r => if insB x = false ∨ n < argsN x.op then 4 else if 16 < n - argsN x.op + 1 then 4 else exprRun (n - argsN x.op + 1) r
/-- The error of a formula. -/
def exprC (code : List Ins) : Nat := if 64 < code.length then 5 else exprRun 0 code
theorem exprRun_cons (n : Nat) (x : Ins) (r : List Ins) : exprRun n (x :: r) = if insB x = false ∨ n < argsN x.op then 4 else if 16 < n - argsN x.op + 1 then 4 else exprRun (n - argsN x.op + 1) r := rfl
theorem argsN_le (op : Int) : argsN op ≤ 3 := by
  unfold argsN
  repeat' split
  all_goals omega

set_option maxRecDepth 20000 in
set_option maxHeartbeats 4000000 in
theorem expr_check (code : List Ins) (p : Option Addr) (cap : Nat) (w : World) (hfit : ∀ x ∈ code, x.k.fit) (hf : IP w w.heap.size p code) :
    Calls Tryz.prog 67 #[.slice p code.length cap] w fun r w' => r = .returned (iV (exprC code)) ∧ Keep (fun _ => False) w w' := by
  have HF := hid hf; have HX := hid hfit
  clear hf hfit
  go_enter Tryz.func67, Tryz.ntmps67
  by_cases hl : 64 < code.length
  · have g1 : decide ((64 : Int) < (code.length : Int)) = true := decide_eq_true (by omega)
    have g2 : decide (64 < code.length) = true := decide_eq_true hl
    have G : Hid (exprC code = 5) := hid (by unfold exprC; rw [if_pos hl])
    go_wp2
    go_ret
    exact ⟨by rw [G.out]; rfl, Keep.refl _ _⟩
  have g1 : decide ((64 : Int) < (code.length : Int)) = false := decide_eq_false (by omega)
  have g2 : decide (64 < code.length) = false := decide_eq_false hl
  have HE : Hid (exprC code = exprRun 0 code) := hid (by unfold exprC; rw [if_neg hl])
  go_wp2_with fail
  clear g1 g2
  go_loopw [3, 5, 11] (fun n _ i wr => ∃ k m : Nat, k ≤ code.length ∧ i = iV k ∧ n = iV m ∧ m ≤ 16 ∧ exprC code = exprRun m (code.drop k) ∧ Keep (fun _ => False) w wr) (fun _ _ i _ => code.length + 1 - (intOf i).toNat)
  case atStart => exact ⟨0, 0, Nat.zero_le _, rfl, rfl, by omega, HE.out, Keep.refl _ _⟩
  case round =>
    clear HE
    obtain ⟨k, m, hk, rfl, rfl, hm16, heq, hkr⟩ := hrel
    have HEQ := hid heq; have HKR := hid hkr
    clear heq hkr
    by_cases hlt : k < code.length
    · obtain ⟨x, hxk⟩ : ∃ x, code[k]? = some x := ⟨code[k], by simp [hlt]⟩
      have HEX := hid (show exprC code = if insB x = false ∨ m < argsN x.op then 4 else if 16 < m - argsN x.op + 1 then 4 else exprRun (m - argsN x.op + 1) (code.drop (k + 1)) by
        rw [HEQ.out, drop_next hxk, exprRun_cons])
      have HXF := hid (HX.out x (List.mem_of_getElem? hxk))
      have han := argsN_le x.op
      obtain ⟨b, off, rfl, hb, c0, c1, c2, c3, c4, c5⟩ := IP.at (IP.low HF.out (Low.keep0 HKR.out)) hxk
      have hin : (0 : Int) ≤ (k : Int) ∧ (k : Int) < (code.length : Int) := ⟨by omega, by omega⟩
      clear hxk hb HEQ
      obtain ⟨op, xa, xb, ⟨kn, kh, kl⟩⟩ := x
      simp only at c0 c1 c2 c3 c4 c5 HEX HXF han
      have HBX := hid (heap_alloc_new wr (.cells #[.int .i64 op, .int .i64 xa, .int .i64 xb, .bool kn, .int .u64 (kh : Int), .int .u64 (kl : Int)] 66))
      have HK1 := hid (HKR.out.alloc (.cells #[.int .i64 op, .int .i64 xa, .int .i64 xb, .bool kn, .int .u64 (kh : Int), .int .u64 (kl : Int)] 66))
      go_upto_region 7 with fail
      generalize wr.alloc (.cells #[.int .i64 op, .int .i64 xa, .int .i64 xb, .bool kn, .int .u64 (kh : Int), .int .u64 (kl : Int)] 66) = w1 at *
      generalize wr.heap.size = sb at *
      clear c0 c1 c2 c3 c4 c5
      have HW : Hid (∀ wy, Keep (fun _ => False) w1 wy → wy.cell? ⟨sb, 0, none⟩ = some (.int .i64 op) ∧ wy.cell? ⟨sb, 1, none⟩ = some (.int .i64 xa) ∧ wy.cell? ⟨sb, 2, none⟩ = some (.int .i64 xb) ∧ wy.cell? ⟨sb, 3, none⟩ = some (.bool kn) ∧ wy.cell? ⟨sb, 4, none⟩ = some (.int .u64 (kh : Int)) ∧ wy.cell? ⟨sb, 5, none⟩ = some (.int .u64 (kl : Int))) := hid (fun wy hk =>
        ⟨cell_of (hk.get HBX.out id) (by rfl), cell_of (hk.get HBX.out id) (by rfl), cell_of (hk.get HBX.out id) (by rfl), cell_of (hk.get HBX.out id) (by rfl), cell_of (hk.get HBX.out id) (by rfl), cell_of (hk.get HBX.out id) (by rfl)⟩)
      obtain ⟨s0, s1, s2, s3, s4, s5⟩ := HW.out _ (Keep.refl _ _)
      go_wp2_with fail
      refine (is_ins ⟨op, xa, xb, ⟨kn, kh, kl⟩⟩ HXF.out _).mono ?_
      rintro r w2 ⟨rfl, hk2⟩
      have HK2 := hid hk2
      clear hk2 s0 s1 s2 s3 s4 s5
      cases hib : insB ⟨op, xa, xb, ⟨kn, kh, kl⟩⟩
      · have G : Hid (exprC code = 4) := hid (by rw [HEX.out, if_pos (.inl hib)])
        clear hib
        go_wp2
        go_ret
        exact ⟨by rw [G.out]; rfl, HK1.out.trans HK2.out⟩
      have HIB := hid hib
      clear hib
      obtain ⟨s0, s1, s2, s3, s4, s5⟩ := HW.out _ HK2.out
      go_wp2_with fail
      refine (args_of ⟨op, xa, xb, ⟨kn, kh, kl⟩⟩ _).mono ?_
      rintro r w3 ⟨rfl, hk3⟩
      have HK3 := hid (HK2.out.trans hk3)
      clear hk3 s0 s1 s2 s3 s4 s5
      generalize hga : argsN op = ar at *
      have HGA := hid hga
      clear hga
      by_cases hma : m < ar
      · have g1 : decide ((m : Int) < (ar : Int)) = true := decide_eq_true (by omega)
        have g2 : decide (m < ar) = true := decide_eq_true hma
        have G : Hid (exprC code = 4) := hid (by rw [HEX.out, if_pos (.inr hma)])
        go_wp2
        go_ret
        exact ⟨by rw [G.out]; rfl, HK1.out.trans HK3.out⟩
      have g1 : decide ((m : Int) < (ar : Int)) = false := decide_eq_false (by omega)
      have g2 : decide (m < ar) = false := decide_eq_false hma
      obtain ⟨s0, s1, s2, s3, s4, s5⟩ := HW.out _ HK3.out
      go_wp2_with fail
      refine (args_of ⟨op, xa, xb, ⟨kn, kh, kl⟩⟩ _).mono ?_
      rintro r w4 ⟨rfl, hk4⟩
      have HK4 := hid (HK3.out.trans hk4)
      clear hk4 s0 s1 s2 s3 s4 s5 g1 g2
      rw [show argsN (⟨op, xa, xb, ⟨kn, kh, kl⟩⟩ : Ins).op = ar from HGA.out]
      obtain ⟨d, hd⟩ : ∃ d : Nat, m - ar + 1 = d := ⟨_, rfl⟩
      have hd1 : (m : Int) + (1 - (ar : Int)) = (d : Int) := by omega
      have hdn : ¬ (insB ⟨op, xa, xb, ⟨kn, kh, kl⟩⟩ = false ∨ m < ar) := by rw [HIB.out]; simp; omega
      have HD := hid (show exprC code = if 16 < d then 4 else exprRun d (code.drop (k + 1)) by rw [HEX.out, if_neg hdn, hd])
      have hd17 : d ≤ 17 := by omega
      have hd2 : wrap64 ((m : Int) + wrap64 (1 - (ar : Int))) = (d : Int) := by unfold wrap64; omega
      have hd3 : wrap64 ((m : Int) + (1 - (ar : Int))) = (d : Int) := by unfold wrap64; omega
      clear hd hdn HEX
      by_cases hbig : 16 < d
      · have g1 : decide ((16 : Int) < (d : Int)) = true := decide_eq_true (by omega)
        have g2 : decide (16 < d) = true := decide_eq_true hbig
        have G : Hid (exprC code = 4) := hid (by rw [HD.out, if_pos hbig])
        go_wp2
        go_ret
        exact ⟨by rw [G.out]; rfl, HK1.out.trans HK4.out⟩
      have g1 : decide ((16 : Int) < (d : Int)) = false := decide_eq_false (by omega)
      have g2 : decide (16 < d) = false := decide_eq_false hbig
      have G := hid (show exprC code = exprRun d (code.drop (k + 1)) by rw [HD.out, if_neg hbig])
      go_wp2
      go_roundw
      case rel => exact ⟨k + 1, d, by omega, by go_num, rfl, by omega, G.out, HK1.out.trans HK4.out⟩
      case measure => simp [intOf]; omega
    · obtain rfl : k = code.length := by omega
      have G : Hid (exprC code = if m = 1 then 0 else 4) := hid (by rw [HEQ.out, List.drop_length]; rfl)
      have g0 : decide ((code.length : Int) < (code.length : Int)) = false := decide_eq_false (by omega)
      by_cases h1 : m = 1
      · subst h1
        go_wp2
        go_ret
        exact ⟨by rw [G.out]; rfl, HKR.out⟩
      · have g1 : ((m : Int) != 1) = true := by simp only [bne, beq_eq_false_iff_ne.2 (show (m : Int) ≠ 1 by omega)]; rfl
        have g2 : (m != 1) = true := by simp only [bne, beq_eq_false_iff_ne.2 h1]; rfl
        have G2 : Hid (exprC code = 4) := hid (by rw [G.out, if_neg h1])
        go_wp2
        go_ret
        exact ⟨by rw [G2.out]; rfl, HKR.out⟩
end Go.Proofs.YtlhdofkgcbmnnaaGreatDoor

namespace Go.Proofs.Sch
open Go.RowKit Go.Proofs.Heap

section
variable {α : Type} {g : α → List Value}

theorem flat3_len (hg : ∀ x, (g x).length = 3) (l : List α) : (l.flatMap g).length = l.length * 3 := by
  induction l with
  | nil => rfl
  | cons x l ih => rw [List.flatMap_cons, List.length_append, hg, ih, List.length_cons]; omega
theorem flat3_at (hg : ∀ x, (g x).length = 3) (l : List α) : ∀ (i : Nat) (x : α) (r : Nat), l[i]? = some x → r < 3 → (l.flatMap g)[i * 3 + r]? = (g x)[r]? := by
  induction l with
  | nil => intro i x r h; simp at h
  | cons y l ih =>
    intro i x r h hr
    rw [List.flatMap_cons]
    cases i with
    | zero =>
      simp at h
      subst h
      rw [List.getElem?_append_left (by rw [hg]; omega), Nat.zero_mul, Nat.zero_add]
    | succ i =>
      rw [List.getElem?_append_right (by rw [hg]; omega), hg, show (i + 1) * 3 + r - 3 = i * 3 + r by omega]
      exact ih i x r (by simpa using h) hr
theorem flat3_inv (hg : ∀ x, (g x).length = 3) (l : List α) {j : Nat} {u : Value} (h : (l.flatMap g)[j]? = some u) : ∃ x, l[j / 3]? = some x ∧ (g x)[j % 3]? = some u := by
  have hj := (List.getElem?_eq_some_iff.1 h).1
  rw [flat3_len hg] at hj
  have hi : j / 3 < l.length := by omega
  refine ⟨l[j / 3], List.getElem?_eq_getElem hi, ?_⟩
  rw [← flat3_at hg l (j / 3) _ (j % 3) (List.getElem?_eq_getElem hi) (by omega), show j / 3 * 3 + j % 3 = j by omega]
  exact h

theorem rd_row3 {w : World} {b off c : Nat} {l : List α} (hg : ∀ x, (g x).length = 3) (h1 : ∀ x, ∀ u ∈ g x, u.oneCell' = true) (hc : ∀ i x, l[i]? = some x → ∀ r u, (g x)[r]? = some u → w.cell? ⟨b, off + i * 3 + r, none⟩ = some u) :
    Rd w 3 (.slice (some ⟨b, off, none⟩) l.length c) l.length (l.flatMap g) := by
  refine ⟨flat3_len hg l, ?_, .inr ⟨_, _, rfl, fun j u hj => ?_⟩⟩
  · intro u hu
    obtain ⟨x, _, hx⟩ := List.mem_flatMap.1 hu
    exact h1 x u hx
  · obtain ⟨x, hx, hu⟩ := flat3_inv hg l hj
    have := hc _ _ hx _ _ hu
    have hadd : (⟨b, off, none⟩ : Addr).add j = ⟨b, off + j, none⟩ := by unfold Addr.add; split <;> simp_all
    rw [hadd, show off + j = off + j / 3 * 3 + j % 3 by omega]
    exact this

/-- An owned row's cell. -/
theorem owns3_cell {w : World} {base : Nat} {e : TypeId} {q c n : Nat} {l : List α} (hg : ∀ x, (g x).length = 3) (h : w.ownsRow base e 3 (.slice (some ⟨q, 0, none⟩) n c) n (l.flatMap g)) {i r : Nat} {x : α} {u : Value} (hx : l[i]? = some x) (hu : (g x)[r]? = some u) : w.cell? ⟨q, i * 3 + r, none⟩ = some u := by
  have hr : r < 3 := by have := (List.getElem?_eq_some_iff.1 hu).1; rw [hg] at this; exact this
  have := h.cells (g := q) rfl (i * 3 + r) u (by rw [flat3_at hg l i x r hx hr]; exact hu)
  have hadd : (⟨q, 0, none⟩ : Addr).add (i * 3 + r) = ⟨q, i * 3 + r, none⟩ := by unfold Addr.add; split <;> simp_all
  rwa [hadd] at this

/-- A cell of an owned row is set. -/
theorem owns_set3 {w : World} {base : Nat} {e : TypeId} {q c n : Nat} {xs : List Value} (h : w.ownsRow base e 3 (.slice (some ⟨q, 0, none⟩) n c) n xs) (k : Nat) (x : Value) :
    (w.setCell ⟨q, k, none⟩ x).ownsRow base e 3 (.slice (some ⟨q, 0, none⟩) n c) n (xs.set k x) := by
  rcases owns_block h with ⟨e1, _⟩ | ⟨g', c', cur, e1, hb, hg, hn, hm, hs, ht⟩
  · cases e1
  · injection e1 with e1 _ e2
    injection e1 with e1
    injection e1 with e1
    subst e1; subst e2
    refine ⟨by rw [List.length_set]; exact h.1, .inr ⟨_, _, _, rfl, hb, hsc_same hg k x, hn, hm, by simpa using hs, ?_⟩⟩
    rw [← ht]
    simp [List.take_set]
end

def fcl (f : Fld) : List Value := [.string f.name, .int .i64 f.kind, .int .i64 f.count]
theorem fcl_len (f : Fld) : (fcl f).length = 3 := rfl
theorem fcl_one (f : Fld) : ∀ u ∈ fcl f, u.oneCell' = true := by
  intro u hu; simp [fcl] at hu; rcases hu with rfl | rfl | rfl <;> rfl
/-- A component with its row's address and room. -/
abbrev Cv := Cmp × Option Addr × Nat
def ccl (c : Cv) : List Value := [.int .i64 c.1.id, .string c.1.name, .slice c.2.1 c.1.fs.length c.2.2]
theorem ccl_len (c : Cv) : (ccl c).length = 3 := rfl
theorem ccl_one (c : Cv) : ∀ u ∈ ccl c, u.oneCell' = true := by
  intro u hu; simp [ccl] at hu; rcases hu with rfl | rfl | rfl <;> rfl

theorem rd_fields {w : World} {B b off c : Nat} {l : List Fld} (h : FP w B (some ⟨b, off, none⟩) l) : Rd w 3 (.slice (some ⟨b, off, none⟩) l.length c) l.length (l.flatMap fcl) := by
  refine rd_row3 fcl_len fcl_one fun i x hx r u hu => ?_
  obtain ⟨b', off', e, _, h0, h1, h2⟩ := FP.at h hx
  injection e with e
  injection e with e1 e2
  subst e1; subst e2
  match r, hu with
  | 0, hu => injection hu with hu; subst hu; exact h0
  | 1, hu => injection hu with hu; subst hu; exact h1
  | 2, hu => injection hu with hu; subst hu; exact h2
  | _ + 3, hu => simp [fcl] at hu

/-- An owned row of fields is a row of fields. -/
theorem fp_own {w : World} {base n : Nat} {e : TypeId} {p : Option Addr} {c : Nat} {l : List Fld} (hn : l.length = n) (h : w.ownsRow base e 3 (.slice p n c) n (l.flatMap fcl)) : FP w w.heap.size p l := by
  rcases Nat.eq_zero_or_pos n with h0 | h0
  · exact .inl (List.eq_nil_of_length_eq_zero (by omega))
  · obtain ⟨q, rfl⟩ := owns_some h h0
    refine .inr ⟨q, 0, rfl, (h.lt q (by simp [Value.ownBlock])).2, fun i x hx => ?_⟩
    have e0 := owns3_cell fcl_len h hx (r := 0) (u := .string x.name) rfl
    have e1 := owns3_cell fcl_len h hx (r := 1) (u := .int .i64 x.kind) rfl
    have e2 := owns3_cell fcl_len h hx (r := 2) (u := .int .i64 x.count) rfl
    rw [Nat.zero_add]
    exact ⟨e0, e1, e2⟩

/-- The components' rows: the addresses and rooms of a schema. -/
def CV (w : World) (B : Nat) (l : List Cv) : Prop := ∀ c ∈ l, c.1.fs.length ≤ c.2.2 ∧ FP w B c.2.1 c.1.fs
theorem CV.low {w w' : World} {B : Nat} {l : List Cv} (h : CV w B l) (hl : Low B w w') : CV w' B l := fun c hc => ⟨(h c hc).1, FP.low (h c hc).2 hl⟩
theorem CV.mono {w : World} {B B' : Nat} {l : List Cv} (h : CV w B l) (hb : B ≤ B') : CV w B' l := fun c hc => ⟨(h c hc).1, FP.mono (h c hc).2 hb⟩

theorem cp_own {w : World} {base n : Nat} {e : TypeId} {p : Option Addr} {c : Nat} {l : List Cv} (hn : l.length = n) (h : w.ownsRow base e 3 (.slice p n c) n (l.flatMap ccl)) (hv : CV w w.heap.size l) : CP w w.heap.size p (l.map (·.1)) := by
  rcases Nat.eq_zero_or_pos n with h0 | h0
  · exact .inl (by rw [List.eq_nil_of_length_eq_zero (by omega : l.length = 0)]; rfl)
  · obtain ⟨q, rfl⟩ := owns_some h h0
    refine .inr ⟨q, 0, rfl, (h.lt q (by simp [Value.ownBlock])).2, fun i x hx => ?_⟩
    rw [List.getElem?_map] at hx
    cases hy : l[i]? with
    | none => rw [hy] at hx; cases hx
    | some y =>
      rw [hy] at hx
      injection hx with hx
      subst hx
      have e0 := owns3_cell ccl_len h hy (r := 0) (u := .int .i64 y.1.id) rfl
      have e1 := owns3_cell ccl_len h hy (r := 1) (u := .string y.1.name) rfl
      have e2 := owns3_cell ccl_len h hy (r := 2) (u := .slice y.2.1 y.1.fs.length y.2.2) rfl
      have hv' := hv y (List.mem_of_getElem? hy)
      rw [Nat.zero_add]
      exact ⟨e0, e1, y.2.1, y.2.2, e2, hv'.1, hv'.2⟩

/-- A row of components, with what its cells hold. -/
theorem cp_rows {w : World} {B b off : Nat} {l : List Cmp} (h : CP w B (some ⟨b, off, none⟩) l) : ∃ vs : List Cv, vs.map (·.1) = l ∧ CV w B vs ∧ ∀ i x, vs[i]? = some x → ∀ r u, (ccl x)[r]? = some u → w.cell? ⟨b, off + i * 3 + r, none⟩ = some u := by
  have key : ∀ k, k ≤ l.length → ∃ vs : List Cv, vs.map (·.1) = l.take k ∧ CV w B vs ∧ ∀ i x, vs[i]? = some x → ∀ r u, (ccl x)[r]? = some u → w.cell? ⟨b, off + i * 3 + r, none⟩ = some u := by
    intro k
    induction k with
    | zero => intro _; exact ⟨[], by simp, fun c hc => by simp at hc, fun i x hx => by simp at hx⟩
    | succ k ih =>
      intro hk
      obtain ⟨vs, h1, h2, h3⟩ := ih (by omega)
      have hx : l[k]? = some l[k] := List.getElem?_eq_getElem (by omega)
      obtain ⟨b', off', q, z, e, _, c0, c1, c2, c3, c4⟩ := CP.at h hx
      injection e with e
      injection e with e1 e2
      subst e1; subst e2
      have hvl : vs.length = k := by have := congrArg List.length h1; rw [List.length_map, List.length_take] at this; omega
      refine ⟨vs ++ [(l[k], q, z)], ?_, ?_, ?_⟩
      · rw [List.map_append, h1, List.take_add_one, hx]; rfl
      · intro c hc
        rcases List.mem_append.1 hc with hc | hc
        · exact h2 c hc
        · rw [List.mem_singleton.1 hc]; exact ⟨c3, c4⟩
      · intro i x hi r u hu
        by_cases hik : i < vs.length
        · rw [List.getElem?_append_left hik] at hi
          exact h3 i x hi r u hu
        · rw [List.getElem?_append_right (by omega)] at hi
          have hi0 : i - vs.length = 0 := by
            have := (List.getElem?_eq_some_iff.1 hi).1
            simp at this; omega
          rw [hi0] at hi
          injection hi with hi
          subst hi
          have hik : i = k := by omega
          subst hik
          match r, hu with
          | 0, hu => injection hu with hu; subst hu; exact c0
          | 1, hu => injection hu with hu; subst hu; exact c1
          | 2, hu => injection hu with hu; subst hu; exact c2
          | _ + 3, hu => simp [ccl] at hu
  obtain ⟨vs, h1, h2, h3⟩ := key l.length (Nat.le_refl _)
  exact ⟨vs, by rw [h1, List.take_length], h2, h3⟩
end Go.Proofs.Sch

namespace Go.Proofs.YtlhdofkgcbmnnaaGreatDoor
open Go.RowKit Go.Proofs.Heap Go.Proofs.Sch Go.Proofs.Wide

def icl (x : Ins) : List Value := [.int .i64 x.op, .int .i64 x.a, .int .i64 x.b, .bool x.k.neg, .int .u64 (x.k.hi : Int), .int .u64 (x.k.lo : Int)]
theorem icl_len (x : Ins) : (icl x).length = 6 := rfl
theorem flatz_at {α : Type} {z : Nat} {g : α → List Value} (hg : ∀ x, (g x).length = z) : ∀ (l : List α) (i r : Nat) (x : α), l[i]? = some x → r < z → (l.flatMap g)[i * z + r]? = (g x)[r]?
  | [], i, r, x, h, _ => by simp at h
  | a :: l, 0, r, x, h, hr => by
    simp at h
    subst h
    rw [List.flatMap_cons, List.getElem?_append_left (by rw [hg]; omega)]
    simp
  | a :: l, i + 1, r, x, h, hr => by
    have e : (i + 1) * z + r = z + (i * z + r) := by rw [Nat.add_mul, Nat.one_mul]; omega
    rw [List.flatMap_cons, e, List.getElem?_append_right (by rw [hg]; omega), hg, show z + (i * z + r) - z = i * z + r by omega]
    exact flatz_at hg l i r x (by simpa using h) hr
/-- An owned row of instructions is a row of instructions. -/
theorem ip_own {w : World} {base n : Nat} {e : TypeId} {p : Option Addr} {c : Nat} {l : List Ins} (hn : l.length = n) (h : w.ownsRow base e 6 (.slice p n c) n (l.flatMap icl)) : IP w w.heap.size p l := by
  rcases Nat.eq_zero_or_pos n with h0 | h0
  · exact .inl (List.eq_nil_of_length_eq_zero (by omega))
  · obtain ⟨q, rfl⟩ := owns_some h h0
    refine .inr ⟨q, 0, rfl, (h.lt q (by simp [Value.ownBlock])).2, fun i x hx => ?_⟩
    have key : ∀ r u, (icl x)[r]? = some u → w.cell? ⟨q, 0 + i * 6 + r, none⟩ = some u := fun r u hu => by
      have hr : r < 6 := by have := (List.getElem?_eq_some_iff.1 hu).1; rw [icl_len] at this; exact this
      have := h.cells (g := q) rfl (i * 6 + r) u (by rw [flatz_at icl_len l i r x hx hr]; exact hu)
      have hadd : (⟨q, 0, none⟩ : Addr).add (i * 6 + r) = ⟨q, i * 6 + r, none⟩ := by unfold Addr.add; split <;> simp_all
      rw [hadd] at this
      rw [Nat.zero_add]
      exact this
    exact ⟨key 0 _ rfl, key 1 _ rfl, key 2 _ rfl, key 3 _ rfl, key 4 _ rfl, key 5 _ rfl⟩
theorem info_ins : (Tryz.prog.info? 66).map (fun i => (i.zero, i.size, i.bytes)) = some (some (.agg #[.int .i64 0, .int .i64 0, .int .i64 0, .bool false, .int .u64 0, .int .u64 0]), 6, 48) := by kernel_rfl

def useB (x : Ins) : Bool := decide (x.op = 2 ∨ x.op = 3)
/-- The elements that a formula uses. -/
def usesL (code : List Ins) : List Ins := code.filter useB
theorem usesL_next {code : List Ins} {k : Nat} {x : Ins} (h : code[k]? = some x) : usesL (code.take (k + 1)) = usesL (code.take k) ++ (if useB x = true then [x] else []) := by
  unfold usesL
  rw [take_next h, List.filter_append, List.filter_cons, List.filter_nil]
theorem usesL_le (code : List Ins) (k : Nat) : (usesL (code.take k)).length ≤ k := Nat.le_trans (List.length_filter_le _ _) (by rw [List.length_take]; omega)

end Go.Proofs.YtlhdofkgcbmnnaaGreatDoor

namespace Go.Proofs.YtlhdofkgcbmnnaaGreatDoor
open Go.RowKit Go.Proofs.Heap Go.Proofs.Sch

theorem box1 (w : World) (c1 : Array Value) (t1 : TypeId) : ∃ w1, w1 = w.alloc (.cells c1 t1) ∧ w1.heap[w.heap.size]? = some (.cells c1 t1 (0, 0)) ∧ w1.heap.size = w.heap.size + 1 ∧ Keep (fun _ => False) w w1 :=
  ⟨_, rfl, heap_alloc_new w _, by simp, (Keep.refl _ w).alloc _⟩
theorem box2 (w : World) (c1 c2 : Array Value) (t1 t2 : TypeId) : ∃ w2, w2 = (w.alloc (.cells c1 t1)).alloc (.cells c2 t2) ∧ w2.heap[w.heap.size]? = some (.cells c1 t1 (0, 0)) ∧ w2.heap[w.heap.size + 1]? = some (.cells c2 t2 (0, 0)) ∧ w2.heap.size = w.heap.size + 2 ∧ Keep (fun _ => False) w w2 := by
  obtain ⟨w1, h1, h2, h3, h4⟩ := box1 w c1 t1
  obtain ⟨w2, k1, k2, k3, k4⟩ := box1 w1 c2 t2
  subst h1
  exact ⟨w2, k1, k4.get h2 id, by rw [← h3]; exact k2, by omega, h4.trans k4⟩
theorem box3 (w : World) (c1 c2 c3 : Array Value) (t1 t2 t3 : TypeId) : ∃ w3, w3 = ((w.alloc (.cells c1 t1)).alloc (.cells c2 t2)).alloc (.cells c3 t3) ∧ w3.heap[w.heap.size]? = some (.cells c1 t1 (0, 0)) ∧ w3.heap[w.heap.size + 1]? = some (.cells c2 t2 (0, 0)) ∧ w3.heap[w.heap.size + 1 + 1]? = some (.cells c3 t3 (0, 0)) ∧ w3.heap.size = w.heap.size + 3 ∧ Keep (fun _ => False) w w3 := by
  obtain ⟨w2, h1, h2, h3, h4, h5⟩ := box2 w c1 c2 t1 t2
  obtain ⟨w3, k1, k2, k3, k4⟩ := box1 w2 c3 t3
  subst h1
  exact ⟨w3, k1, k4.get h2 id, k4.get h3 id, by rw [← h4]; exact k2, by omega, h5.trans k4⟩
theorem box4 (w : World) (c1 c2 c3 c4 : Array Value) (t1 t2 t3 t4 : TypeId) : ∃ w4, w4 = (((w.alloc (.cells c1 t1)).alloc (.cells c2 t2)).alloc (.cells c3 t3)).alloc (.cells c4 t4) ∧ w4.heap[w.heap.size]? = some (.cells c1 t1 (0, 0)) ∧ w4.heap[w.heap.size + 1]? = some (.cells c2 t2 (0, 0)) ∧ w4.heap[w.heap.size + 1 + 1]? = some (.cells c3 t3 (0, 0)) ∧ w4.heap[w.heap.size + 1 + 1 + 1]? = some (.cells c4 t4 (0, 0)) ∧ w4.heap.size = w.heap.size + 4 ∧ Keep (fun _ => False) w w4 := by
  obtain ⟨w3, h1, h2, h3, h4, h5, h6⟩ := box3 w c1 c2 c3 t1 t2 t3
  obtain ⟨w4, k1, k2, k3, k4⟩ := box1 w3 c4 t4
  subst h1
  exact ⟨w4, k1, k4.get h2 id, k4.get h3 id, k4.get h4 id, by rw [← show _ = w.heap.size + 1 + 1 + 1 from h5]; exact k2, by omega, h6.trans k4⟩

theorem box5 (w : World) (c1 c2 c3 c4 c5 : Array Value) (t1 t2 t3 t4 t5 : TypeId) : ∃ w5, w5 = ((((w.alloc (.cells c1 t1)).alloc (.cells c2 t2)).alloc (.cells c3 t3)).alloc (.cells c4 t4)).alloc (.cells c5 t5) ∧ w5.heap[w.heap.size]? = some (.cells c1 t1 (0, 0)) ∧ w5.heap[w.heap.size + 1]? = some (.cells c2 t2 (0, 0)) ∧ w5.heap[w.heap.size + 1 + 1]? = some (.cells c3 t3 (0, 0)) ∧ w5.heap[w.heap.size + 1 + 1 + 1]? = some (.cells c4 t4 (0, 0)) ∧ w5.heap[w.heap.size + 1 + 1 + 1 + 1]? = some (.cells c5 t5 (0, 0)) ∧ w5.heap.size = w.heap.size + 5 ∧ Keep (fun _ => False) w w5 := by
  obtain ⟨w4, h1, h2, h3, h4, h5, h6, h7⟩ := box4 w c1 c2 c3 c4 t1 t2 t3 t4
  obtain ⟨w5, k1, k2, k3, k4⟩ := box1 w4 c5 t5
  subst h1
  exact ⟨w5, k1, k4.get h2 id, k4.get h3 id, k4.get h4 id, k4.get h5 id, by rw [← show _ = w.heap.size + 1 + 1 + 1 + 1 from h6]; exact k2, by omega, h7.trans k4⟩
end Go.Proofs.YtlhdofkgcbmnnaaGreatDoor

namespace Go.Proofs.YtlhdofkgcbmnnaaGreatDoor
open Go.RowKit Go.Proofs.Heap Go.Proofs.Sch Go.Proofs.Wide

/-- The error of an element that a formula of a field uses. -/
def useC (old : Cmp) (f : Fld) (x : Ins) : Nat :=
  match old.fs[x.a.toNat]? with
  | none => 3
  | some g => if (x.op = 2 ∧ g.count ≤ x.b) ∨ (x.op = 3 ∧ g.count < f.count) then 3 else if decide (g.kind = 10) = decide (f.kind = 10) then 0 else 8
/-- Whether a formula answers a handle. -/
def handleB : List Ins → Bool
  | [x] => decide (x.op ≠ 4) && (decide (x.op ≠ 1) || (!x.k.neg && (decide (x.k.hi = 0) && decide (x.k.lo = 0))))
  | _ => false

end Go.Proofs.YtlhdofkgcbmnnaaGreatDoor

namespace Go.Proofs.YtlhdofkgcbmnnaaGreatDoor
open Go.RowKit Go.Proofs.Heap Go.Proofs.Sch Go.Proofs.Wide

theorem exprRun_all : ∀ (code : List Ins) (n : Nat), exprRun n code = 0 → ∀ x ∈ code, insB x = true
  | [], _, _, x, hx => by simp at hx
  | y :: r, n, h, x, hx => by
    rw [exprRun_cons] at h
    by_cases h1 : insB y = false ∨ n < argsN y.op
    · rw [if_pos h1] at h; omega
    · rw [if_neg h1] at h
      by_cases h2 : 16 < n - argsN y.op + 1
      · rw [if_pos h2] at h; omega
      · rw [if_neg h2] at h
        rcases List.mem_cons.1 hx with rfl | hx
        · cases e : insB x
          · exact absurd (.inl e) h1
          · rfl
        · exact exprRun_all r _ h x hx
theorem exprC_all {code : List Ins} (h : exprC code = 0) : code ≠ [] ∧ code.length ≤ 64 ∧ ∀ x ∈ code, insB x = true := by
  unfold exprC at h
  by_cases h1 : 64 < code.length
  · rw [if_pos h1] at h; omega
  · rw [if_neg h1] at h
    refine ⟨fun e => ?_, by omega, exprRun_all code 0 h⟩
    subst e
    simp [exprRun] at h
theorem insB_a {x : Ins} (h : insB x = true) : (0 ≤ x.a ∧ x.a < 8) ∧ (0 ≤ x.b ∧ x.b < 8) ∧ x.k.form = true := by
  unfold insB at h
  simp at h
  obtain ⟨_, h2, h3⟩ := h
  exact ⟨by omega, by omega, h2⟩

/-- The error of the elements that are left. -/
def errU (old : Cmp) (f : Fld) : List Ins → Nat
  | [] => 0
  | x :: r => if useC old f x = 0 then errU old f r else useC old f x
/-- The error of a field's formula. -/
def formC (old : Cmp) (f : Fld) (code : List Ins) : Nat :=
  if exprC code = 0 then (if errU old f (usesL code) = 0 then (if f.kind = 10 ∧ handleB code = false then 8 else 0) else errU old f (usesL code)) else exprC code

end Go.Proofs.YtlhdofkgcbmnnaaGreatDoor

namespace Go.Proofs.YtlhdofkgcbmnnaaGreatDoor
open Go.RowKit Go.Proofs.Heap Go.Proofs.Sch Go.Proofs.Wide

end Go.Proofs.YtlhdofkgcbmnnaaGreatDoor

namespace Go.Proofs.YtlhdofkgcbmnnaaGreatDoor
open Go.RowKit Go.Proofs.Heap Go.Proofs.Sch Go.Proofs.Wide

/-- A writer in block q, whose bytes are the row sv's. -/
structure WrS (w : World) (base q : Nat) (sv : Value) (l : List UInt8) : Prop where
  block : w.heap[q]? = some (.cells #[sv] 75 (0, 0))
  own : w.ownsRow base 5 1 sv l.length (l.map byteV)
  ne : sv.ownBlock ≠ some q
  base : base ≤ q
/-- The blocks that a writer may turn. -/
def WrF (q : Nat) (sv : Value) (g : Nat) : Prop := g = q ∨ sv.ownBlock = some g

theorem info_u8 : (Tryz.prog.info? 5).map (fun i => (i.zero, i.size, i.bytes)) = some (some (.int .u8 0), 1, 1) := by kernel_rfl

/-- The first bytes of a number, little end first. -/
def leL : Nat → Nat → List UInt8
  | 0, _ => []
  | k + 1, m => UInt8.ofNat m :: leL k (m / 256)
theorem leL_len : ∀ (k m : Nat), (leL k m).length = k
  | 0, _ => rfl
  | k + 1, m => by rw [leL, List.length_cons, leL_len k]
theorem leL_next : ∀ (k m : Nat), leL (k + 1) m = leL k m ++ [UInt8.ofNat (m / 256 ^ k)]
  | 0, m => by simp [leL]
  | k + 1, m => by
    rw [leL, leL_next k (m / 256), leL, List.cons_append, Nat.div_div_eq_div_mul, Nat.pow_succ, Nat.mul_comm]
/-- A number of so many bytes. -/
def WideOk (wd : Nat) : Prop := wd = 1 ∨ wd = 2 ∨ wd = 4 ∨ wd = 8

set_option maxRecDepth 20000 in
set_option maxHeartbeats 8000000 in
theorem oct_wide (wd : Nat) (hwd : WideOk wd) (w : World) : Calls Tryz.prog 50 #[.int .i64 (wd : Int)] w fun r w' => r = .returned (.bool true) ∧ w = w' := by
  rcases hwd with rfl | rfl | rfl | rfl
  all_goals
    go_enter Tryz.func50, Tryz.ntmps50
    go_wp2
    go_ret
    exact ⟨rfl, rfl⟩

/-- The writer behind some more bytes. -/
structure WrN (w w' : World) (base q : Nat) (sv sv' : Value) (l' : List UInt8) : Prop where
  st : WrS w' base q sv' l'
  keep : Keep (WrF q sv) w w'
  own : ∀ g, sv'.ownBlock = some g → sv.ownBlock = some g ∨ w.heap.size ≤ g

set_option maxRecDepth 20000 in
set_option maxHeartbeats 8000000 in
theorem oct_num1 (m : Nat) (hm : m < 256) (base q : Nat) (sv : Value) (l : List UInt8) (w : World) (hll : l.length ≤ 1000000) (hW : WrS w base q sv l) :
    Calls Tryz.prog 25 #[.pointer (some ⟨q, 0, none⟩), .int .i64 1, .int .u64 (m : Int)] w fun r w' => ∃ sv', r = .returned (.bool true) ∧ WrN w w' base q sv sv' (l ++ leL 1 m) := by
  obtain ⟨i0, hi0, hz0, hz1, hz2⟩ := info_parts' info_u8
  have HW := hid hW
  clear hW
  go_enter Tryz.func25, Tryz.ntmps25
  go_wp2_with fail
  refine (oct_wide 1 (by unfold WideOk; omega) _).mono ?_
  rintro r w1 ⟨rfl, rfl⟩
  have HM : Hid (m < 18446744073709551616) := hid (by omega)
  have g1 : ((m : Int) / 256 != 0) = false := by simp only [bne, beq_iff_eq.2 (show (m : Int) / 256 = 0 by omega)]; rfl
  go_wp2_with fail
  go_loopw [2, 27] (fun n i wr => ∃ (k m' : Nat) (sv' : Value) (l' : List UInt8), k ≤ 1 ∧ i = iV k ∧ n = .int .u64 (m' : Int) ∧ m' < 18446744073709551616 ∧ WrS wr base q sv' l' ∧ Keep (WrF q sv) w wr ∧ (∀ g, sv'.ownBlock = some g → sv.ownBlock = some g ∨ w.heap.size ≤ g) ∧ l' = l ++ leL k m ∧ m' = m / 256 ^ k) (fun _ i _ => 1 + 1 - (intOf i).toNat)
  case atStart => exact ⟨0, m, sv, l, Nat.zero_le _, rfl, rfl, HM.out, HW.out, Keep.refl _ _, fun g hg => .inl hg, by simp [leL], by simp⟩
  case round =>
    obtain ⟨k, m', sv', l', hk, rfl, rfl, hm', hws, hkr, how, hln0, hmk⟩ := hrel
    have hln : l'.length = l.length + k := by rw [hln0, List.length_append, leL_len]
    have HMK := hid hmk; have HL0 := hid hln0
    obtain ⟨vp, vc, rfl⟩ := owns_val hws.own
    have HKR := hid hkr; have HOW := hid how; have HWS := hid hws; have HLN := hid hln; have HM' := hid hm'
    clear hkr how hws hln hm' hln0 hmk
    by_cases hlt : k < 1
    · have c0 : wr.cell? ⟨q, 0, none⟩ = some (.slice vp l'.length vc) := cell_of HWS.out.block (by rfl)
      have f0 : wr.frozen? ⟨q, 0, none⟩ = false := free_of HWS.out.block 0
      have HQ := hid (lt_of_heap HWS.out.block)
      go_wp2_with (at_builtin; go_loud (refine wpList_append_rd rfl (.tmp 33) (.tmp 36) _ rfl base _ i0 _ 1 1 Tryz.underlying59 hi0 hz0 hz1 hz2 rfl (by decide) _ l'.length _ (by rfl) (HWS.out.own.alloc _) _ 1 _ (by rfl) (rd_block (heap_alloc_new wr _) (by simp) (by simp [Value.oneCell'])) (by unfold maxLen; have := HLN.out; omega) (by have := HLN.out; omega) (by have := HWS.out.base; have := HQ.out; simp; omega) ?_); go_loud (intro v' w5 hown5 hgrow5 hat5 hn5; obtain ⟨vq, vd, rfl⟩ := owns_val hown5; have HO5 := hid hown5; have HG5 := hid hgrow5; have HA5 := hid hat5; have HQ5 := hid ((HG5.out.block q (by have := HQ.out; simp; omega) (fun e => HWS.out.ne e.symm)).trans (((Keep.refl (fun _ => False) wr).alloc _).get HWS.out.block id)); have c5 : w5.cell? ⟨q, 0, none⟩ = some (.slice vp l'.length vc) := cell_of HQ5.out (by rfl); have f5 : w5.frozen? ⟨q, 0, none⟩ = false := free_of HQ5.out 0; clear hown5 hgrow5 hat5 hn5))
      have HNE : Hid ((Value.slice vq (l'.length + 1) vd).ownBlock ≠ some q) := hid (fun e => by
        rcases HA5.out with h | h
        · exact HWS.out.ne (h ▸ e)
        · have := HQ.out; have h2 := h.symm.trans e; simp at h2; omega)
      have HR : Hid (WrS (w5.setCell ⟨q, 0, none⟩ (.slice vq (l'.length + 1) vd)) base q (.slice vq (l'.length + 1) vd) (l' ++ [UInt8.ofNat m']) ∧ Keep (WrF q sv) w (w5.setCell ⟨q, 0, none⟩ (.slice vq (l'.length + 1) vd)) ∧ (∀ g, (Value.slice vq (l'.length + 1) vd).ownBlock = some g → sv.ownBlock = some g ∨ w.heap.size ≤ g)) := hid (by
        refine ⟨⟨?_, ?_, HNE.out, HWS.out.base⟩, ?_, fun g hg => ?_⟩
        · simpa using hsc_same HQ5.out 0 (.slice vq (l'.length + 1) vd)
        · rw [List.length_append, List.map_append]
          refine owns_keep (by simpa [byteV] using HO5.out) (fun g hg => hsc_ne _ (fun e => HNE.out (e ▸ hg)))
        · refine Keep.setCell (Keep.grown (HKR.out.alloc _) HG5.out (fun k hk => ?_)) (p := ⟨q, 0, none⟩) (.inl rfl) _
          rcases HOW.out k hk with h | h
          · exact .inr (.inr h)
          · exact .inl h
        · rcases HA5.out with h | h
          · exact HOW.out g (h ▸ hg)
          · refine .inr ?_
            have h2 := h.symm.trans hg
            have := HKR.out.size
            simp at h2
            omega)
      go_wp2
      go_roundw
      case rel => exact ⟨k + 1, m' / 256, _, _, by omega, by go_num, by simp, by have := HM'.out; omega, HR.out.1, HR.out.2.1, HR.out.2.2, by rw [HL0.out, leL_next, HMK.out, List.append_assoc], by rw [HMK.out, Nat.div_div_eq_div_mul, Nat.pow_succ]⟩
      case measure => simp [intOf]; omega
    · obtain rfl : k = 1 := by omega
      go_wp2
      go_ret
      exact ⟨_, rfl, by have h := HWS.out; have h2 := HOW.out; rw [HL0.out] at h h2; exact ⟨h, HKR.out, h2⟩⟩

set_option maxRecDepth 20000 in
set_option maxHeartbeats 8000000 in
theorem oct_num2 (m : Nat) (hm : m < 65536) (base q : Nat) (sv : Value) (l : List UInt8) (w : World) (hll : l.length ≤ 1000000) (hW : WrS w base q sv l) :
    Calls Tryz.prog 25 #[.pointer (some ⟨q, 0, none⟩), .int .i64 2, .int .u64 (m : Int)] w fun r w' => ∃ sv', r = .returned (.bool true) ∧ WrN w w' base q sv sv' (l ++ leL 2 m) := by
  obtain ⟨i0, hi0, hz0, hz1, hz2⟩ := info_parts' info_u8
  have HW := hid hW
  clear hW
  go_enter Tryz.func25, Tryz.ntmps25
  go_wp2_with fail
  refine (oct_wide 2 (by unfold WideOk; omega) _).mono ?_
  rintro r w1 ⟨rfl, rfl⟩
  have HM : Hid (m < 18446744073709551616) := hid (by omega)
  have g1 : ((m : Int) / 65536 != 0) = false := by simp only [bne, beq_iff_eq.2 (show (m : Int) / 65536 = 0 by omega)]; rfl
  go_wp2_with fail
  go_loopw [2, 27] (fun n i wr => ∃ (k m' : Nat) (sv' : Value) (l' : List UInt8), k ≤ 2 ∧ i = iV k ∧ n = .int .u64 (m' : Int) ∧ m' < 18446744073709551616 ∧ WrS wr base q sv' l' ∧ Keep (WrF q sv) w wr ∧ (∀ g, sv'.ownBlock = some g → sv.ownBlock = some g ∨ w.heap.size ≤ g) ∧ l' = l ++ leL k m ∧ m' = m / 256 ^ k) (fun _ i _ => 2 + 1 - (intOf i).toNat)
  case atStart => exact ⟨0, m, sv, l, Nat.zero_le _, rfl, rfl, HM.out, HW.out, Keep.refl _ _, fun g hg => .inl hg, by simp [leL], by simp⟩
  case round =>
    obtain ⟨k, m', sv', l', hk, rfl, rfl, hm', hws, hkr, how, hln0, hmk⟩ := hrel
    have hln : l'.length = l.length + k := by rw [hln0, List.length_append, leL_len]
    have HMK := hid hmk; have HL0 := hid hln0
    obtain ⟨vp, vc, rfl⟩ := owns_val hws.own
    have HKR := hid hkr; have HOW := hid how; have HWS := hid hws; have HLN := hid hln; have HM' := hid hm'
    clear hkr how hws hln hm' hln0 hmk
    by_cases hlt : k < 2
    · have c0 : wr.cell? ⟨q, 0, none⟩ = some (.slice vp l'.length vc) := cell_of HWS.out.block (by rfl)
      have f0 : wr.frozen? ⟨q, 0, none⟩ = false := free_of HWS.out.block 0
      have HQ := hid (lt_of_heap HWS.out.block)
      go_wp2_with (at_builtin; go_loud (refine wpList_append_rd rfl (.tmp 33) (.tmp 36) _ rfl base _ i0 _ 1 1 Tryz.underlying59 hi0 hz0 hz1 hz2 rfl (by decide) _ l'.length _ (by rfl) (HWS.out.own.alloc _) _ 1 _ (by rfl) (rd_block (heap_alloc_new wr _) (by simp) (by simp [Value.oneCell'])) (by unfold maxLen; have := HLN.out; omega) (by have := HLN.out; omega) (by have := HWS.out.base; have := HQ.out; simp; omega) ?_); go_loud (intro v' w5 hown5 hgrow5 hat5 hn5; obtain ⟨vq, vd, rfl⟩ := owns_val hown5; have HO5 := hid hown5; have HG5 := hid hgrow5; have HA5 := hid hat5; have HQ5 := hid ((HG5.out.block q (by have := HQ.out; simp; omega) (fun e => HWS.out.ne e.symm)).trans (((Keep.refl (fun _ => False) wr).alloc _).get HWS.out.block id)); have c5 : w5.cell? ⟨q, 0, none⟩ = some (.slice vp l'.length vc) := cell_of HQ5.out (by rfl); have f5 : w5.frozen? ⟨q, 0, none⟩ = false := free_of HQ5.out 0; clear hown5 hgrow5 hat5 hn5))
      have HNE : Hid ((Value.slice vq (l'.length + 1) vd).ownBlock ≠ some q) := hid (fun e => by
        rcases HA5.out with h | h
        · exact HWS.out.ne (h ▸ e)
        · have := HQ.out; have h2 := h.symm.trans e; simp at h2; omega)
      have HR : Hid (WrS (w5.setCell ⟨q, 0, none⟩ (.slice vq (l'.length + 1) vd)) base q (.slice vq (l'.length + 1) vd) (l' ++ [UInt8.ofNat m']) ∧ Keep (WrF q sv) w (w5.setCell ⟨q, 0, none⟩ (.slice vq (l'.length + 1) vd)) ∧ (∀ g, (Value.slice vq (l'.length + 1) vd).ownBlock = some g → sv.ownBlock = some g ∨ w.heap.size ≤ g)) := hid (by
        refine ⟨⟨?_, ?_, HNE.out, HWS.out.base⟩, ?_, fun g hg => ?_⟩
        · simpa using hsc_same HQ5.out 0 (.slice vq (l'.length + 1) vd)
        · rw [List.length_append, List.map_append]
          refine owns_keep (by simpa [byteV] using HO5.out) (fun g hg => hsc_ne _ (fun e => HNE.out (e ▸ hg)))
        · refine Keep.setCell (Keep.grown (HKR.out.alloc _) HG5.out (fun k hk => ?_)) (p := ⟨q, 0, none⟩) (.inl rfl) _
          rcases HOW.out k hk with h | h
          · exact .inr (.inr h)
          · exact .inl h
        · rcases HA5.out with h | h
          · exact HOW.out g (h ▸ hg)
          · refine .inr ?_
            have h2 := h.symm.trans hg
            have := HKR.out.size
            simp at h2
            omega)
      go_wp2
      go_roundw
      case rel => exact ⟨k + 1, m' / 256, _, _, by omega, by go_num, by simp, by have := HM'.out; omega, HR.out.1, HR.out.2.1, HR.out.2.2, by rw [HL0.out, leL_next, HMK.out, List.append_assoc], by rw [HMK.out, Nat.div_div_eq_div_mul, Nat.pow_succ]⟩
      case measure => simp [intOf]; omega
    · obtain rfl : k = 2 := by omega
      go_wp2
      go_ret
      exact ⟨_, rfl, by have h := HWS.out; have h2 := HOW.out; rw [HL0.out] at h h2; exact ⟨h, HKR.out, h2⟩⟩

set_option maxRecDepth 20000 in
set_option maxHeartbeats 8000000 in
theorem oct_num4 (m : Nat) (hm : m < 4294967296) (base q : Nat) (sv : Value) (l : List UInt8) (w : World) (hll : l.length ≤ 1000000) (hW : WrS w base q sv l) :
    Calls Tryz.prog 25 #[.pointer (some ⟨q, 0, none⟩), .int .i64 4, .int .u64 (m : Int)] w fun r w' => ∃ sv', r = .returned (.bool true) ∧ WrN w w' base q sv sv' (l ++ leL 4 m) := by
  obtain ⟨i0, hi0, hz0, hz1, hz2⟩ := info_parts' info_u8
  have HW := hid hW
  clear hW
  go_enter Tryz.func25, Tryz.ntmps25
  go_wp2_with fail
  refine (oct_wide 4 (by unfold WideOk; omega) _).mono ?_
  rintro r w1 ⟨rfl, rfl⟩
  have HM : Hid (m < 18446744073709551616) := hid (by omega)
  have g1 : ((m : Int) / 4294967296 != 0) = false := by simp only [bne, beq_iff_eq.2 (show (m : Int) / 4294967296 = 0 by omega)]; rfl
  go_wp2_with fail
  go_loopw [2, 27] (fun n i wr => ∃ (k m' : Nat) (sv' : Value) (l' : List UInt8), k ≤ 4 ∧ i = iV k ∧ n = .int .u64 (m' : Int) ∧ m' < 18446744073709551616 ∧ WrS wr base q sv' l' ∧ Keep (WrF q sv) w wr ∧ (∀ g, sv'.ownBlock = some g → sv.ownBlock = some g ∨ w.heap.size ≤ g) ∧ l' = l ++ leL k m ∧ m' = m / 256 ^ k) (fun _ i _ => 4 + 1 - (intOf i).toNat)
  case atStart => exact ⟨0, m, sv, l, Nat.zero_le _, rfl, rfl, HM.out, HW.out, Keep.refl _ _, fun g hg => .inl hg, by simp [leL], by simp⟩
  case round =>
    obtain ⟨k, m', sv', l', hk, rfl, rfl, hm', hws, hkr, how, hln0, hmk⟩ := hrel
    have hln : l'.length = l.length + k := by rw [hln0, List.length_append, leL_len]
    have HMK := hid hmk; have HL0 := hid hln0
    obtain ⟨vp, vc, rfl⟩ := owns_val hws.own
    have HKR := hid hkr; have HOW := hid how; have HWS := hid hws; have HLN := hid hln; have HM' := hid hm'
    clear hkr how hws hln hm' hln0 hmk
    by_cases hlt : k < 4
    · have c0 : wr.cell? ⟨q, 0, none⟩ = some (.slice vp l'.length vc) := cell_of HWS.out.block (by rfl)
      have f0 : wr.frozen? ⟨q, 0, none⟩ = false := free_of HWS.out.block 0
      have HQ := hid (lt_of_heap HWS.out.block)
      go_wp2_with (at_builtin; go_loud (refine wpList_append_rd rfl (.tmp 33) (.tmp 36) _ rfl base _ i0 _ 1 1 Tryz.underlying59 hi0 hz0 hz1 hz2 rfl (by decide) _ l'.length _ (by rfl) (HWS.out.own.alloc _) _ 1 _ (by rfl) (rd_block (heap_alloc_new wr _) (by simp) (by simp [Value.oneCell'])) (by unfold maxLen; have := HLN.out; omega) (by have := HLN.out; omega) (by have := HWS.out.base; have := HQ.out; simp; omega) ?_); go_loud (intro v' w5 hown5 hgrow5 hat5 hn5; obtain ⟨vq, vd, rfl⟩ := owns_val hown5; have HO5 := hid hown5; have HG5 := hid hgrow5; have HA5 := hid hat5; have HQ5 := hid ((HG5.out.block q (by have := HQ.out; simp; omega) (fun e => HWS.out.ne e.symm)).trans (((Keep.refl (fun _ => False) wr).alloc _).get HWS.out.block id)); have c5 : w5.cell? ⟨q, 0, none⟩ = some (.slice vp l'.length vc) := cell_of HQ5.out (by rfl); have f5 : w5.frozen? ⟨q, 0, none⟩ = false := free_of HQ5.out 0; clear hown5 hgrow5 hat5 hn5))
      have HNE : Hid ((Value.slice vq (l'.length + 1) vd).ownBlock ≠ some q) := hid (fun e => by
        rcases HA5.out with h | h
        · exact HWS.out.ne (h ▸ e)
        · have := HQ.out; have h2 := h.symm.trans e; simp at h2; omega)
      have HR : Hid (WrS (w5.setCell ⟨q, 0, none⟩ (.slice vq (l'.length + 1) vd)) base q (.slice vq (l'.length + 1) vd) (l' ++ [UInt8.ofNat m']) ∧ Keep (WrF q sv) w (w5.setCell ⟨q, 0, none⟩ (.slice vq (l'.length + 1) vd)) ∧ (∀ g, (Value.slice vq (l'.length + 1) vd).ownBlock = some g → sv.ownBlock = some g ∨ w.heap.size ≤ g)) := hid (by
        refine ⟨⟨?_, ?_, HNE.out, HWS.out.base⟩, ?_, fun g hg => ?_⟩
        · simpa using hsc_same HQ5.out 0 (.slice vq (l'.length + 1) vd)
        · rw [List.length_append, List.map_append]
          refine owns_keep (by simpa [byteV] using HO5.out) (fun g hg => hsc_ne _ (fun e => HNE.out (e ▸ hg)))
        · refine Keep.setCell (Keep.grown (HKR.out.alloc _) HG5.out (fun k hk => ?_)) (p := ⟨q, 0, none⟩) (.inl rfl) _
          rcases HOW.out k hk with h | h
          · exact .inr (.inr h)
          · exact .inl h
        · rcases HA5.out with h | h
          · exact HOW.out g (h ▸ hg)
          · refine .inr ?_
            have h2 := h.symm.trans hg
            have := HKR.out.size
            simp at h2
            omega)
      go_wp2
      go_roundw
      case rel => exact ⟨k + 1, m' / 256, _, _, by omega, by go_num, by simp, by have := HM'.out; omega, HR.out.1, HR.out.2.1, HR.out.2.2, by rw [HL0.out, leL_next, HMK.out, List.append_assoc], by rw [HMK.out, Nat.div_div_eq_div_mul, Nat.pow_succ]⟩
      case measure => simp [intOf]; omega
    · obtain rfl : k = 4 := by omega
      go_wp2
      go_ret
      exact ⟨_, rfl, by have h := HWS.out; have h2 := HOW.out; rw [HL0.out] at h h2; exact ⟨h, HKR.out, h2⟩⟩

set_option maxRecDepth 20000 in
set_option maxHeartbeats 8000000 in
theorem oct_num8 (m : Nat) (hm : m < 18446744073709551616) (base q : Nat) (sv : Value) (l : List UInt8) (w : World) (hll : l.length ≤ 1000000) (hW : WrS w base q sv l) :
    Calls Tryz.prog 25 #[.pointer (some ⟨q, 0, none⟩), .int .i64 8, .int .u64 (m : Int)] w fun r w' => ∃ sv', r = .returned (.bool true) ∧ WrN w w' base q sv sv' (l ++ leL 8 m) := by
  obtain ⟨i0, hi0, hz0, hz1, hz2⟩ := info_parts' info_u8
  have HW := hid hW
  clear hW
  go_enter Tryz.func25, Tryz.ntmps25
  go_wp2_with fail
  refine (oct_wide 8 (by unfold WideOk; omega) _).mono ?_
  rintro r w1 ⟨rfl, rfl⟩
  have HM : Hid (m < 18446744073709551616) := hid (by omega)
  go_wp2_with fail
  go_loopw [2, 27] (fun n i wr => ∃ (k m' : Nat) (sv' : Value) (l' : List UInt8), k ≤ 8 ∧ i = iV k ∧ n = .int .u64 (m' : Int) ∧ m' < 18446744073709551616 ∧ WrS wr base q sv' l' ∧ Keep (WrF q sv) w wr ∧ (∀ g, sv'.ownBlock = some g → sv.ownBlock = some g ∨ w.heap.size ≤ g) ∧ l' = l ++ leL k m ∧ m' = m / 256 ^ k) (fun _ i _ => 8 + 1 - (intOf i).toNat)
  case atStart => exact ⟨0, m, sv, l, Nat.zero_le _, rfl, rfl, HM.out, HW.out, Keep.refl _ _, fun g hg => .inl hg, by simp [leL], by simp⟩
  case round =>
    obtain ⟨k, m', sv', l', hk, rfl, rfl, hm', hws, hkr, how, hln0, hmk⟩ := hrel
    have hln : l'.length = l.length + k := by rw [hln0, List.length_append, leL_len]
    have HMK := hid hmk; have HL0 := hid hln0
    obtain ⟨vp, vc, rfl⟩ := owns_val hws.own
    have HKR := hid hkr; have HOW := hid how; have HWS := hid hws; have HLN := hid hln; have HM' := hid hm'
    clear hkr how hws hln hm' hln0 hmk
    by_cases hlt : k < 8
    · have c0 : wr.cell? ⟨q, 0, none⟩ = some (.slice vp l'.length vc) := cell_of HWS.out.block (by rfl)
      have f0 : wr.frozen? ⟨q, 0, none⟩ = false := free_of HWS.out.block 0
      have HQ := hid (lt_of_heap HWS.out.block)
      go_wp2_with (at_builtin; go_loud (refine wpList_append_rd rfl (.tmp 33) (.tmp 36) _ rfl base _ i0 _ 1 1 Tryz.underlying59 hi0 hz0 hz1 hz2 rfl (by decide) _ l'.length _ (by rfl) (HWS.out.own.alloc _) _ 1 _ (by rfl) (rd_block (heap_alloc_new wr _) (by simp) (by simp [Value.oneCell'])) (by unfold maxLen; have := HLN.out; omega) (by have := HLN.out; omega) (by have := HWS.out.base; have := HQ.out; simp; omega) ?_); go_loud (intro v' w5 hown5 hgrow5 hat5 hn5; obtain ⟨vq, vd, rfl⟩ := owns_val hown5; have HO5 := hid hown5; have HG5 := hid hgrow5; have HA5 := hid hat5; have HQ5 := hid ((HG5.out.block q (by have := HQ.out; simp; omega) (fun e => HWS.out.ne e.symm)).trans (((Keep.refl (fun _ => False) wr).alloc _).get HWS.out.block id)); have c5 : w5.cell? ⟨q, 0, none⟩ = some (.slice vp l'.length vc) := cell_of HQ5.out (by rfl); have f5 : w5.frozen? ⟨q, 0, none⟩ = false := free_of HQ5.out 0; clear hown5 hgrow5 hat5 hn5))
      have HNE : Hid ((Value.slice vq (l'.length + 1) vd).ownBlock ≠ some q) := hid (fun e => by
        rcases HA5.out with h | h
        · exact HWS.out.ne (h ▸ e)
        · have := HQ.out; have h2 := h.symm.trans e; simp at h2; omega)
      have HR : Hid (WrS (w5.setCell ⟨q, 0, none⟩ (.slice vq (l'.length + 1) vd)) base q (.slice vq (l'.length + 1) vd) (l' ++ [UInt8.ofNat m']) ∧ Keep (WrF q sv) w (w5.setCell ⟨q, 0, none⟩ (.slice vq (l'.length + 1) vd)) ∧ (∀ g, (Value.slice vq (l'.length + 1) vd).ownBlock = some g → sv.ownBlock = some g ∨ w.heap.size ≤ g)) := hid (by
        refine ⟨⟨?_, ?_, HNE.out, HWS.out.base⟩, ?_, fun g hg => ?_⟩
        · simpa using hsc_same HQ5.out 0 (.slice vq (l'.length + 1) vd)
        · rw [List.length_append, List.map_append]
          refine owns_keep (by simpa [byteV] using HO5.out) (fun g hg => hsc_ne _ (fun e => HNE.out (e ▸ hg)))
        · refine Keep.setCell (Keep.grown (HKR.out.alloc _) HG5.out (fun k hk => ?_)) (p := ⟨q, 0, none⟩) (.inl rfl) _
          rcases HOW.out k hk with h | h
          · exact .inr (.inr h)
          · exact .inl h
        · rcases HA5.out with h | h
          · exact HOW.out g (h ▸ hg)
          · refine .inr ?_
            have h2 := h.symm.trans hg
            have := HKR.out.size
            simp at h2
            omega)
      go_wp2
      go_roundw
      case rel => exact ⟨k + 1, m' / 256, _, _, by omega, by go_num, by simp, by have := HM'.out; omega, HR.out.1, HR.out.2.1, HR.out.2.2, by rw [HL0.out, leL_next, HMK.out, List.append_assoc], by rw [HMK.out, Nat.div_div_eq_div_mul, Nat.pow_succ]⟩
      case measure => simp [intOf]; omega
    · obtain rfl : k = 8 := by omega
      go_wp2
      go_ret
      exact ⟨_, rfl, by have h := HWS.out; have h2 := HOW.out; rw [HL0.out] at h h2; exact ⟨h, HKR.out, h2⟩⟩

theorem run_wr_string {w : World} {base q : Nat} {sv : Value} {l : List UInt8} (h : WrS w base q sv l) :
    (convert 59 9 sv).run Tryz.prog w = .ok (.string ⟨l.toArray⟩) w := by
  rcases owns_block h.own with ⟨rfl, h0, h1⟩ | ⟨g, cap, cur, rfl, _, hg, _⟩
  · obtain rfl : l = [] := by simpa using h1
    kernel_rfl
  · refine run_bytes_string w _ _ 5 (by kernel_rfl) (by kernel_rfl) (by kernel_rfl) g 0 _ cap l rfl fun i x hx => ?_
    rw [Nat.zero_add, owns_cell h.own (List.getElem?_eq_some_iff.1 hx).1, List.getElem?_map, hx]
    rfl

set_option maxRecDepth 20000 in
set_option maxHeartbeats 8000000 in
theorem wr_string (base q : Nat) (sv : Value) (l : List UInt8) (w : World) (hW : WrS w base q sv l) :
    Calls Tryz.prog 27 #[.pointer (some ⟨q, 0, none⟩)] w fun r w' => r = .returned (.string ⟨l.toArray⟩) ∧ w = w' := by
  have hr := run_wr_string hW
  have c0 : w.cell? ⟨q, 0, none⟩ = some sv := cell_of hW.block (by rfl)
  obtain ⟨vp, vc, rfl⟩ := owns_val hW.own
  clear hW
  go_enter Tryz.func27, Tryz.ntmps27
  go_wp2
  go_ret
  exact ⟨rfl, rfl⟩
end Go.Proofs.YtlhdofkgcbmnnaaGreatDoor

namespace Go.Proofs.YtlhdofkgcbmnnaaGreatDoor
open Go.RowKit Go.Proofs.Heap Go.Proofs.Sch Go.Proofs.Wide

set_option maxRecDepth 20000 in
set_option maxHeartbeats 8000000 in
theorem is_wide (wd : Nat) (hwd : wd = 1 ∨ wd = 8) (w : World) : Calls Tryz.prog 50 #[.int .i64 (wd : Int)] w fun r w' => r = .returned (.bool true) ∧ w = w' := by
  rcases hwd with rfl | rfl
  all_goals
    go_enter Tryz.func50, Tryz.ntmps50
    go_wp2
    go_ret
    exact ⟨rfl, rfl⟩

set_option maxRecDepth 20000 in
set_option maxHeartbeats 8000000 in
theorem num_put (wd : Nat) (hwd : wd = 1 ∨ wd = 8) (m : Nat) (hm : m < 18446744073709551616) (base q : Nat) (sv : Value) (l : List UInt8) (w : World) (hll : l.length ≤ 1000000) (hW : WrS w base q sv l) :
    Calls Tryz.prog 25 #[.pointer (some ⟨q, 0, none⟩), .int .i64 (wd : Int), .int .u64 (m : Int)] w fun r w' => ∃ b sv' l', r = .returned (.bool b) ∧ WrS w' base q sv' l' ∧ Keep (WrF q sv) w w' ∧ (∀ g, sv'.ownBlock = some g → sv.ownBlock = some g ∨ w.heap.size ≤ g) ∧ l'.length ≤ l.length + 8 := by
  obtain ⟨i0, hi0, hz0, hz1, hz2⟩ := info_parts' info_u8
  have HW := hid hW
  clear hW
  go_enter Tryz.func25, Tryz.ntmps25
  go_wp2_with fail
  refine (is_wide wd hwd _).mono ?_
  rintro r w1 ⟨rfl, rfl⟩
  have HM := hid hm
  rcases hwd with rfl | rfl
  · by_cases h0 : m / 256 = 0
    rotate_left
    · have g1 : ((m : Int) / 256 != 0) = true := by simp only [bne, beq_eq_false_iff_ne.2 (show (m : Int) / 256 ≠ 0 by omega)]; rfl
      go_wp2
      go_ret
      exact ⟨_, sv, l, rfl, HW.out, Keep.refl _ _, fun g hg => .inl hg, by omega⟩
    have g1 : ((m : Int) / 256 != 0) = false := by simp only [bne, beq_iff_eq.2 (show (m : Int) / 256 = 0 by omega)]; rfl
    go_wp2_with fail
    go_loopw [2, 27] (fun n i wr => ∃ (k m' : Nat) (sv' : Value) (l' : List UInt8), k ≤ 1 ∧ i = iV k ∧ n = .int .u64 (m' : Int) ∧ m' < 18446744073709551616 ∧ WrS wr base q sv' l' ∧ Keep (WrF q sv) w wr ∧ (∀ g, sv'.ownBlock = some g → sv.ownBlock = some g ∨ w.heap.size ≤ g) ∧ l'.length = l.length + k) (fun _ i _ => 1 + 1 - (intOf i).toNat)
    case atStart => exact ⟨0, m, sv, l, Nat.zero_le _, rfl, rfl, HM.out, HW.out, Keep.refl _ _, fun g hg => .inl hg, rfl⟩
    case round =>
      obtain ⟨k, m', sv', l', hk, rfl, rfl, hm', hws, hkr, how, hln⟩ := hrel
      obtain ⟨vp, vc, rfl⟩ := owns_val hws.own
      have HKR := hid hkr; have HOW := hid how; have HWS := hid hws; have HLN := hid hln; have HM' := hid hm'
      clear hkr how hws hln hm'
      by_cases hlt : k < 1
      · have c0 : wr.cell? ⟨q, 0, none⟩ = some (.slice vp l'.length vc) := cell_of HWS.out.block (by rfl)
        have f0 : wr.frozen? ⟨q, 0, none⟩ = false := free_of HWS.out.block 0
        have HQ := hid (lt_of_heap HWS.out.block)
        go_wp2_with (at_builtin; go_loud (refine wpList_append_rd rfl (.tmp 33) (.tmp 36) _ rfl base _ i0 _ 1 1 Tryz.underlying59 hi0 hz0 hz1 hz2 rfl (by decide) _ l'.length _ (by rfl) (HWS.out.own.alloc _) _ 1 _ (by rfl) (rd_block (heap_alloc_new wr _) (by simp) (by simp [Value.oneCell'])) (by unfold maxLen; have := HLN.out; omega) (by have := HLN.out; omega) (by have := HWS.out.base; have := HQ.out; simp; omega) ?_); go_loud (intro v' w5 hown5 hgrow5 hat5 hn5; obtain ⟨vq, vd, rfl⟩ := owns_val hown5; have HO5 := hid hown5; have HG5 := hid hgrow5; have HA5 := hid hat5; have HQ5 := hid ((HG5.out.block q (by have := HQ.out; simp; omega) (fun e => HWS.out.ne e.symm)).trans (((Keep.refl (fun _ => False) wr).alloc _).get HWS.out.block id)); have c5 : w5.cell? ⟨q, 0, none⟩ = some (.slice vp l'.length vc) := cell_of HQ5.out (by rfl); have f5 : w5.frozen? ⟨q, 0, none⟩ = false := free_of HQ5.out 0; clear hown5 hgrow5 hat5 hn5))
        have HNE : Hid ((Value.slice vq (l'.length + 1) vd).ownBlock ≠ some q) := hid (fun e => by
          rcases HA5.out with h | h
          · exact HWS.out.ne (h ▸ e)
          · have := HQ.out; have h2 := h.symm.trans e; simp at h2; omega)
        have HR : Hid (WrS (w5.setCell ⟨q, 0, none⟩ (.slice vq (l'.length + 1) vd)) base q (.slice vq (l'.length + 1) vd) (l' ++ [UInt8.ofNat m']) ∧ Keep (WrF q sv) w (w5.setCell ⟨q, 0, none⟩ (.slice vq (l'.length + 1) vd)) ∧ (∀ g, (Value.slice vq (l'.length + 1) vd).ownBlock = some g → sv.ownBlock = some g ∨ w.heap.size ≤ g)) := hid (by
          refine ⟨⟨?_, ?_, HNE.out, HWS.out.base⟩, ?_, fun g hg => ?_⟩
          · simpa using hsc_same HQ5.out 0 (.slice vq (l'.length + 1) vd)
          · rw [List.length_append, List.map_append]
            refine owns_keep (by simpa [byteV] using HO5.out) (fun g hg => hsc_ne _ (fun e => HNE.out (e ▸ hg)))
          · refine Keep.setCell (Keep.grown (HKR.out.alloc _) HG5.out (fun k hk => ?_)) (p := ⟨q, 0, none⟩) (.inl rfl) _
            rcases HOW.out k hk with h | h
            · exact .inr (.inr h)
            · exact .inl h
          · rcases HA5.out with h | h
            · exact HOW.out g (h ▸ hg)
            · refine .inr ?_
              have h2 := h.symm.trans hg
              have := HKR.out.size
              simp at h2
              omega)
        go_wp2
        go_roundw
        case rel => exact ⟨k + 1, m' / 256, _, _, by omega, by go_num, by simp, by have := HM'.out; omega, HR.out.1, HR.out.2.1, HR.out.2.2, by rw [List.length_append, HLN.out]; rfl⟩
        case measure => simp [intOf]; omega
      · obtain rfl : k = 1 := by omega
        go_wp2
        go_ret
        exact ⟨_, _, l', rfl, HWS.out, HKR.out, HOW.out, by have := HLN.out; omega⟩
  · skip
    go_wp2_with fail
    go_loopw [2, 27] (fun n i wr => ∃ (k m' : Nat) (sv' : Value) (l' : List UInt8), k ≤ 8 ∧ i = iV k ∧ n = .int .u64 (m' : Int) ∧ m' < 18446744073709551616 ∧ WrS wr base q sv' l' ∧ Keep (WrF q sv) w wr ∧ (∀ g, sv'.ownBlock = some g → sv.ownBlock = some g ∨ w.heap.size ≤ g) ∧ l'.length = l.length + k) (fun _ i _ => 8 + 1 - (intOf i).toNat)
    case atStart => exact ⟨0, m, sv, l, Nat.zero_le _, rfl, rfl, HM.out, HW.out, Keep.refl _ _, fun g hg => .inl hg, rfl⟩
    case round =>
      obtain ⟨k, m', sv', l', hk, rfl, rfl, hm', hws, hkr, how, hln⟩ := hrel
      obtain ⟨vp, vc, rfl⟩ := owns_val hws.own
      have HKR := hid hkr; have HOW := hid how; have HWS := hid hws; have HLN := hid hln; have HM' := hid hm'
      clear hkr how hws hln hm'
      by_cases hlt : k < 8
      · have c0 : wr.cell? ⟨q, 0, none⟩ = some (.slice vp l'.length vc) := cell_of HWS.out.block (by rfl)
        have f0 : wr.frozen? ⟨q, 0, none⟩ = false := free_of HWS.out.block 0
        have HQ := hid (lt_of_heap HWS.out.block)
        go_wp2_with (at_builtin; go_loud (refine wpList_append_rd rfl (.tmp 33) (.tmp 36) _ rfl base _ i0 _ 1 1 Tryz.underlying59 hi0 hz0 hz1 hz2 rfl (by decide) _ l'.length _ (by rfl) (HWS.out.own.alloc _) _ 1 _ (by rfl) (rd_block (heap_alloc_new wr _) (by simp) (by simp [Value.oneCell'])) (by unfold maxLen; have := HLN.out; omega) (by have := HLN.out; omega) (by have := HWS.out.base; have := HQ.out; simp; omega) ?_); go_loud (intro v' w5 hown5 hgrow5 hat5 hn5; obtain ⟨vq, vd, rfl⟩ := owns_val hown5; have HO5 := hid hown5; have HG5 := hid hgrow5; have HA5 := hid hat5; have HQ5 := hid ((HG5.out.block q (by have := HQ.out; simp; omega) (fun e => HWS.out.ne e.symm)).trans (((Keep.refl (fun _ => False) wr).alloc _).get HWS.out.block id)); have c5 : w5.cell? ⟨q, 0, none⟩ = some (.slice vp l'.length vc) := cell_of HQ5.out (by rfl); have f5 : w5.frozen? ⟨q, 0, none⟩ = false := free_of HQ5.out 0; clear hown5 hgrow5 hat5 hn5))
        have HNE : Hid ((Value.slice vq (l'.length + 1) vd).ownBlock ≠ some q) := hid (fun e => by
          rcases HA5.out with h | h
          · exact HWS.out.ne (h ▸ e)
          · have := HQ.out; have h2 := h.symm.trans e; simp at h2; omega)
        have HR : Hid (WrS (w5.setCell ⟨q, 0, none⟩ (.slice vq (l'.length + 1) vd)) base q (.slice vq (l'.length + 1) vd) (l' ++ [UInt8.ofNat m']) ∧ Keep (WrF q sv) w (w5.setCell ⟨q, 0, none⟩ (.slice vq (l'.length + 1) vd)) ∧ (∀ g, (Value.slice vq (l'.length + 1) vd).ownBlock = some g → sv.ownBlock = some g ∨ w.heap.size ≤ g)) := hid (by
          refine ⟨⟨?_, ?_, HNE.out, HWS.out.base⟩, ?_, fun g hg => ?_⟩
          · simpa using hsc_same HQ5.out 0 (.slice vq (l'.length + 1) vd)
          · rw [List.length_append, List.map_append]
            refine owns_keep (by simpa [byteV] using HO5.out) (fun g hg => hsc_ne _ (fun e => HNE.out (e ▸ hg)))
          · refine Keep.setCell (Keep.grown (HKR.out.alloc _) HG5.out (fun k hk => ?_)) (p := ⟨q, 0, none⟩) (.inl rfl) _
            rcases HOW.out k hk with h | h
            · exact .inr (.inr h)
            · exact .inl h
          · rcases HA5.out with h | h
            · exact HOW.out g (h ▸ hg)
            · refine .inr ?_
              have h2 := h.symm.trans hg
              have := HKR.out.size
              simp at h2
              omega)
        go_wp2
        go_roundw
        case rel => exact ⟨k + 1, m' / 256, _, _, by omega, by go_num, by simp, by have := HM'.out; omega, HR.out.1, HR.out.2.1, HR.out.2.2, by rw [List.length_append, HLN.out]; rfl⟩
        case measure => simp [intOf]; omega
      · obtain rfl : k = 8 := by omega
        go_wp2
        go_ret
        exact ⟨_, _, l', rfl, HWS.out, HKR.out, HOW.out, by have := HLN.out; omega⟩
end Go.Proofs.YtlhdofkgcbmnnaaGreatDoor
