/- What is proved: the law that what was packed is unpacked as it was answers true (its walk). -/
import Derived.Test.YtkgkcnmnfhehfaaMClamp
import Derived.Test.YtkgkcnmnfhehfaaMBuilder
import Derived.Deep.Cut
import Derived.Deep.CutRange
import Derived.Deep.CutBlock
import Derived.Test.YtkgkcnmnfhehfaaMHeap
import Derived.Test.YtkgkcnmnfhehfaaProg
import Derived.Deep.Slices
import Derived.Deep.Strs
import Derived.ProofKit
import Derived.OpenShut
import Derived.ShutString
import Derived.ChangeOld
import Derived.Below
import Derived.Test.YtkgkcnmnfhehfaaMRef05b
import Derived.SizedLaws
import Derived.Test.YtkgkcnmnfhehfaaMBox
namespace Go.Proofs.Ytkgkcnmnfhehfaa
open Go.RowKit Go.Proofs.Heap Go.Proofs.Sch Go.Proofs.Wide

theorem eqV_self (a : List WI) : eqV a a = true := eqV_yes rfl
theorem unV_fit (fs : List Fld) (s : ByteArray) : ∀ x ∈ unV fs s, x.fit := by
  intro x hx
  unfold unV at hx
  split at hx
  · unfold unRow at hx
    have key : ∀ m, m ≤ fs.length → ∀ x ∈ (unRun s (fs.take m)).2, x.fit := by
      intro m
      induction m with
      | zero => intro _ x hx; rw [List.take_zero] at hx; cases hx
      | succ m ih =>
        intro hm x hx
        obtain ⟨f, hf⟩ : ∃ f, fs[m]? = some f := ⟨fs[m], by simp [show m < fs.length by omega]⟩
        rw [unRun_next hf] at hx
        rcases List.mem_append.1 hx with h | h
        · exact ih (by omega) x h
        · obtain ⟨i, _, rfl⟩ := List.mem_map.1 h
          exact getV_fit _ _
    have := key fs.length (Nat.le_refl _)
    rw [List.take_length] at this
    exact this x hx
  · cases hx
theorem unV_len (fs : List Fld) (s : ByteArray) (h : unE fs s = 0) : (unV fs s).length ≤ 64 := by
  obtain ⟨h0, h1, _⟩ := fitC_zero (back_bytes h).1
  have h2 := layC_zero h0
  have h3 := sumN_le fs h2.2
  omega
set_option maxRecDepth 20000 in
set_option maxHeartbeats 16000000 in
theorem layoutBack_walk (fs : List Fld) (p : Option Addr) (cap : Nat) (aa : List WI) (qa : Option Addr) (ca : Nat) (bs : List WI) (qb : Option Addr) (cb : Nat) (s : ByteArray) (w : World) (hcap : fs.length ≤ cap) (hf : FP w w.heap.size p fs)
    (hca : aa.length ≤ ca) (ha : XP w w.heap.size qa aa) (hfa : ∀ x ∈ aa, x.fit) (hcb : bs.length ≤ cb) (hb : XP w w.heap.size qb bs) (hfb : ∀ x ∈ bs, x.fit) :
    Calls Try.prog 4 #[.slice p fs.length cap, .slice qa aa.length ca, .slice qb bs.length cb, .string s] w fun r w' => r = .returned (.bool true) ∧ Below w.heap.size w w' := by
  have HF := hid hf; have HCP := hid hcap; have HA := hid ha; have HFA := hid hfa; have HB := hid hb; have HFB := hid hfb; have HCA := hid hca; have HCB := hid hcb
  clear hf hcap ha hfa hb hfb hca hcb
  have HFP : Hid (∀ wy, Keep (fun _ => False) w wy → FP wy wy.heap.size p fs) := hid (fun wy hk => FP.mono (FP.low HF.out (Low.keep0 hk)) hk.size)
  have HAP : Hid (∀ wy, Keep (fun _ => False) w wy → XP wy wy.heap.size qa aa) := hid (fun wy hk => XP.mono (XP.low HA.out (Low.keep0 hk)) hk.size)
  have HBP : Hid (∀ wy, Keep (fun _ => False) w wy → XP wy wy.heap.size qb bs) := hid (fun wy hk => XP.mono (XP.low HB.out (Low.keep0 hk)) hk.size)
  go_enter Try.func4, Try.ntmps4
  go_wp2_with fail
  refine (awake_true _).mono ?_
  rintro r w1 ⟨rfl, hk1⟩
  have HK1 := hid hk1
  clear hk1
  go_wp2_with fail
  refine (gr_of _ _ _ _ _ _ _).mono ?_
  rintro r w_ ⟨rfl, rfl⟩
  cases hg1 : (decide (12 < fs.length) || decide (100 < aa.length))
  rotate_left
  · go_wp2
    go_ret
    exact ⟨rfl, HK1.out.below⟩
  go_wp2_with fail
  refine (gr_of _ _ _ _ _ _ _).mono ?_
  rintro r w_ ⟨rfl, rfl⟩
  cases hg2 : (decide (12 < fs.length) || decide (100 < bs.length))
  rotate_left
  · go_wp2
    go_ret
    exact ⟨rfl, HK1.out.below⟩
  by_cases h300 : 300 < s.size
  · have g1 : decide ((300 : Int) < (s.size : Int)) = true := decide_eq_true (by omega)
    go_wp2
    go_ret
    exact ⟨rfl, HK1.out.below⟩
  have g1 : decide ((300 : Int) < (s.size : Int)) = false := decide_eq_false (by omega)
  rw [Bool.or_eq_false_iff] at hg1 hg2
  have hla : aa.length ≤ 100 := by have := of_decide_eq_false hg1.2; omega
  have hlb : bs.length ≤ 100 := by have := of_decide_eq_false hg2.2; omega
  clear hg1 hg2
  have HS : Hid (s.size ≤ 300) := hid (by omega)
  have HPA := hid (fun wy (h : Keep (fun _ => False) w wy) => lay_pack fs p cap aa qa ca wy HCP.out HCA.out (by omega) HFA.out (HFP.out wy h) (HAP.out wy h))
  have HPB := hid (fun wy (h : Keep (fun _ => False) w wy) => lay_pack fs p cap bs qb cb wy HCP.out HCB.out (by omega) HFB.out (HFP.out wy h) (HBP.out wy h))
  have HTA := hid (fun wy (h : Keep (fun _ => False) w wy) => lay_fit fs p cap aa qa ca wy HCP.out HCA.out (by omega) HFA.out (HFP.out wy h) (HAP.out wy h))
  clear h300
  go_wp2_with fail
  refine (lay_unpack fs p cap s _ HCP.out (by have := HS.out; omega) (HFP.out _ HK1.out)).mono ?_
  rintro r w2 ⟨va, vc, rfl, hown, hk2⟩
  have HK2 := hid (HK1.out.trans hk2); have HO := hid hown
  clear hk2 hown
  have HE : Hid (unE fs s = 0 → fitC fs (unV fs s) = 0 ∧ packS fs (unV fs s) = s ∧ (unV fs s).length ≤ 64) := hid (fun h => ⟨(back_bytes h).1, (back_bytes h).2, unV_len fs s h⟩)
  have HUF := hid (unV_fit fs s)
  obtain ⟨z, hz⟩ : ∃ z, unE fs s = z := ⟨_, rfl⟩
  rw [hz] at HE ⊢
  clear hz
  generalize unV fs s = uv at *
  go_upto_if 41 with fail
  go_cut [11, 12] from 41 to 54 (fun _ _ wx => Keep (fun _ => False) w wx)
  case first =>
    by_cases h0 : z = 0
    · subst h0
      obtain ⟨e1, e2, e3⟩ := HE.out rfl
      have hc := lay_pack fs p cap uv va vc w2 HCP.out (owns_cap HO.out) (by omega) HUF.out (HFP.out _ HK2.out) (xp_own rfl HO.out)
      rw [e1, e2] at hc
      clear e1 e2 e3
      go_wp2_with fail
      refine hc.mono ?_
      clear hc
      rintro r w3 ⟨rfl, hk3⟩
      have HK3 := hid (HK2.out.trans hk3)
      clear hk3
      have g2 : (!s.toList == s.toList) = false := by simp
      go_wp2
      go_meet
      case rel => exact HK3.out
    · have g2 : ((z : Int) == 0) = false := beq_eq_false_iff_ne.2 (by omega)
      have g3 : (z == 0) = false := beq_eq_false_iff_ne.2 h0
      clear h0
      go_wp2
      go_meet
      case rel => exact HK2.out
  case rest =>
  have HKC := hid hcut
  clear hcut HE HUF HO g1
  go_wp2_with fail
  refine (HPA.out _ HKC.out).mono ?_
  rintro r w4 ⟨rfl, hk4⟩
  have HK4 := hid (HKC.out.trans hk4)
  clear hk4
  by_cases hf0 : fitC fs aa = 0
  rotate_left
  · obtain ⟨y, hy⟩ : ∃ y, fitC fs aa = y := ⟨_, rfl⟩
    rw [hy] at hf0 HTA ⊢
    have g2 : ((y : Int) != 0) = true := by rw [bne, beq_eq_false_iff_ne.2 (show (y : Int) ≠ 0 by omega)]; rfl
    have g3 : (y != 0) = true := by rw [bne, beq_eq_false_iff_ne.2 hf0]; rfl
    clear hf0 hy
    go_wp2_with fail
    refine (HTA.out _ HK4.out).mono ?_
    rintro r w5 ⟨rfl, hk5⟩
    have HK5 := hid (HK4.out.trans hk5)
    clear hk5
    go_wp2
    go_ret
    exact ⟨rfl, HK5.out.below⟩
  have hby := back_yes hf0
  have HINJ : Hid (fitC fs bs = 0 → packS fs aa = packS fs bs → aa = bs) := hid (fun h1 h2 => pack_inj hf0 h1 h2)
  have hsz : (packS fs aa).size ≤ 9223372036854775807 := by
    rw [packS_ok hf0]
    show (packL fs aa).toArray.size ≤ _
    rw [List.size_toArray, packL_len hf0]
    have h0 := (fitC_zero hf0).1
    unfold layC at h0
    by_cases c1 : 8 < fs.length
    · rw [if_pos c1] at h0; omega
    · rw [if_neg c1] at h0
      by_cases c2 : ∀ f ∈ fs, okF f
      · rw [if_pos c2] at h0
        by_cases c3 : 256 < pSize fs
        · rw [if_pos c3] at h0; omega
        · omega
      · rw [if_neg c2] at h0; omega
  rw [hf0]
  have HUN : Hid (∀ wy, Keep (fun _ => False) w wy → Calls Try.prog 14 #[.slice p fs.length cap, .string (packS fs aa)] wy fun r w' => ∃ a c, r = .returned (.tuple #[.slice a aa.length c, iV 0]) ∧ w'.ownsRow wy.heap.size 57 3 (.slice a aa.length c) aa.length (aa.flatMap wcl) ∧ Keep (fun _ => False) wy w') := hid (fun wy h => by
    have hc := lay_unpack fs p cap (packS fs aa) wy HCP.out hsz (HFP.out wy h)
    rwa [hby.1, hby.2] at hc)
  have HPE : Hid (aa = bs → packS fs aa = packS fs bs) := hid (fun h => by rw [h])
  clear hf0 hby hsz
  generalize packS fs aa = xa at *
  go_wp2_with fail
  refine (HUN.out _ HK4.out).mono ?_
  rintro r w5 ⟨ua, uc, rfl, hown, hk5⟩
  have HK5 := hid (HK4.out.trans hk5); have HO := hid hown
  clear hk5 hown
  go_wp2_with fail
  refine (HPB.out _ HK5.out).mono ?_
  rintro r w6 ⟨rfl, hk6⟩
  have HK6 := hid (HK5.out.trans hk6); have HO6 := hid (owns_keep HO.out (fun i hi => hk6.block i (HO.out.lt i hi).2 id))
  clear hk6
  go_wp2_with fail
  refine (vals_of aa aa ua qa uc ca _ (by omega) (xp_own rfl HO6.out) (HAP.out _ HK6.out)).mono ?_
  rintro r w7 ⟨rfl, hk7⟩
  rw [eqV_self]
  have HK7 := hid (HK6.out.trans hk7)
  clear hk7
  by_cases hb0 : fitC fs bs = 0
  rotate_left
  · obtain ⟨y, hy⟩ : ∃ y, fitC fs bs = y := ⟨_, rfl⟩
    rw [hy] at hb0 ⊢
    have g2 : ((y : Int) != 0) = true := by rw [bne, beq_eq_false_iff_ne.2 (show (y : Int) ≠ 0 by omega)]; rfl
    have g3 : (y != 0) = true := by rw [bne, beq_eq_false_iff_ne.2 hb0]; rfl
    clear hb0 hy
    go_wp2
    go_ret
    exact ⟨rfl, HK7.out.below⟩
  have HI := hid (HINJ.out hb0)
  rw [hb0]
  clear hb0 HINJ
  generalize packS fs bs = xb at *
  have hvl := vals_of aa bs qa qb ca cb w7 (by omega) (HAP.out _ HK7.out) (HBP.out _ HK7.out)
  by_cases hab : aa = bs
  · have g2 : (xa.toList == xb.toList) = true := by rw [HPE.out hab]; simp
    rw [eqV_yes hab] at hvl
    clear hab
    go_wp2_with fail
    refine hvl.mono ?_
    rintro r w8 ⟨rfl, hk8⟩
    have HK8 := hid (HK7.out.trans hk8)
    clear hk8 hvl
    go_wp2
    go_ret
    exact ⟨rfl, HK8.out.below⟩
  · have g2 : (xa.toList == xb.toList) = false := beq_eq_false_iff_ne.2 (fun h => hab (HI.out (toList_inj h)))
    rw [eqV_no hab] at hvl
    clear hab
    go_wp2_with fail
    refine hvl.mono ?_
    rintro r w8 ⟨rfl, hk8⟩
    have HK8 := hid (HK7.out.trans hk8)
    clear hk8 hvl
    go_wp2
    go_ret
    exact ⟨rfl, HK8.out.below⟩
end Go.Proofs.Ytkgkcnmnfhehfaa

namespace Go.Proofs.Ytkgkcnmnfhehfaa
open Go.RowKit Go.Proofs.Heap Go.Proofs.Sch Go.Proofs.Wide

section
variable {P : Program} {ops : Array Oper}
theorem quiet_eql_w {Q : Act → Prop} {rest : List Oper} {a : Act} {o : Oper} {w : World} (hgd : Region.wanted o (yielded ops a.tmps) = true) (t u : TypeId) (x y : Operand) (xs ys : Array Value) (b : Bool) (ho : o.op = .binOp .eql t x y u) (hx : a.eval x = .agg xs) (hy : a.eval y = .agg ys)
    (hm : P.eqGuardType P.depth t = false) (hl : (binOp .eql t (.agg xs) (.agg ys)).run P w = .ok (.bool b) w) (h : wpQuiet P ops (fun w' => w' = w) Q rest (a.put o.dst (.bool b))) : wpQuiet P ops (fun w' => w' = w) Q (o :: rest) a := by
  refine BigFrame.wpQuiet_want hgd fun K hK => ⟨.bool b, fun w' hw' => ?_, hK _ h⟩
  subst hw'
  have hg := fun (o1 o2 : Operand) => run_eqGuard_agg (P := P) (w := w') .eql t o1 o2 xs ys hm
  unfold Oper.quietAt execOp
  simp [ho, hx, hy, hl, hg]
  exact ⟨rfl, rfl⟩
end
theorem wcl_set : ∀ (vs : List WI) (k : Nat) (y : WI), k < vs.length → (((vs.flatMap wcl).set (k * 3) (.bool y.neg)).set (k * 3 + 1) (.int .u64 (y.hi : Int))).set (k * 3 + 2) (.int .u64 (y.lo : Int)) = (vs.set k y).flatMap wcl
  | [], k, y, h => by simp at h
  | v :: r, 0, y, _ => by simp [wcl]
  | v :: r, k + 1, y, h => by
    have ih := wcl_set r k y (by simpa using h)
    rw [List.set_cons_succ, List.flatMap_cons, List.flatMap_cons, ← ih, show (k + 1) * 3 = k * 3 + 1 + 1 + 1 by omega]
    simp only [wcl, List.cons_append, List.nil_append, List.set_cons_succ]
theorem eql_same (x : WI) (w : World) : (binOp .eql 57 (WV x) (WV x)).run Try.prog w = .ok (.bool true) w := by
  rw [run_eql_struct, eq_wi]; simp
theorem eql_other {x y : WI} (h : x ≠ y) (w : World) : (binOp .eql 57 (WV x) (WV y)).run Try.prog w = .ok (.bool false) w := by
  rw [run_eql_struct, eq_wi]
  cases e : (x.neg == y.neg && ((x.hi : Int) == (y.hi : Int) && (x.lo : Int) == (y.lo : Int)))
  · rfl
  · exfalso
    simp only [Bool.and_eq_true, beq_iff_eq] at e
    obtain ⟨n1, h1, l1⟩ := x
    obtain ⟨n2, h2, l2⟩ := y
    obtain ⟨e1, e2, e3⟩ := e
    simp only at e1 e2 e3
    exact h (by rw [e1, show h1 = h2 by omega, show l1 = l2 by omega])
theorem sum_zero {fs : List Fld} (hok : ∀ f ∈ fs, okF f) (h : sumN fs = 0) : fs = [] := by
  cases fs with
  | nil => rfl
  | cons f r =>
    have h1 := (hok f (by simp)).2.1
    simp only [sumN] at h
    omega
theorem elem_at {fs : List Fld} {j k : Nat} {f : Fld} (hf : fs[j]? = some f) (h1 : sumN (fs.take j) ≤ k) (h2 : k < sumN (fs.take j) + f.count.toNat) : (eRun fs)[k]? = some (f.kind, upN (pRun (fs.take j)).1 (szN f.kind) + szN f.kind * (k - sumN (fs.take j))) := by
  have h := eRun_at hf (j := k - sumN (fs.take j)) (by omega)
  rwa [show sumN (fs.take j) + (k - sumN (fs.take j)) = k by omega] at h

theorem own_ne {w : World} {base n size : Nat} {e : TypeId} {v : Value} {xs : List Value} {A : Prop} {g : Addr} {c : Nat} (h : w.ownsRow base e size v n xs) (hn : v = .slice none 0 0 ↔ Value.slice (some g) 0 c = .slice none 0 0 ∧ A) : ∃ gv gd, v = .slice (some ⟨gv, 0, none⟩) n gd := by
  rcases owns_block h with ⟨e1, _, _⟩ | ⟨g', c', cur, e1, _⟩
  · have h2 := hn.1 e1
    cases h2.1
  · exact ⟨g', c', e1⟩

set_option maxRecDepth 20000 in
set_option maxHeartbeats 16000000 in
theorem layoutApart_walk (fs : List Fld) (p : Option Addr) (cap : Nat) (vs : List WI) (q : Option Addr) (qc : Nat) (at_ : Int) (x : WI) (w : World) (hcap : fs.length ≤ cap) (hf : FP w w.heap.size p fs)
    (hqc : vs.length ≤ qc) (hv : XP w w.heap.size q vs) (hfit : ∀ x ∈ vs, x.fit) (hqn : q = none → qc = 0) (hx : x.fit) :
    Calls Try.prog 7 #[.slice p fs.length cap, .slice q vs.length qc, .int .i64 at_, WV x] w fun r w' => r = .returned (.bool true) ∧ Below w.heap.size w w' := by
  obtain ⟨i1, hi1, hy0, hy1, hy2⟩ := info_parts' info_wi
  have HF := hid hf; have HCP := hid hcap; have HV := hid hv; have HX := hid hfit; have HQC := hid hqc; have HQN := hid hqn; have HXX := hid hx
  clear hf hcap hv hfit hqc hqn hx
  have HFP : Hid (∀ wy, Keep (fun _ => False) w wy → FP wy wy.heap.size p fs) := hid (fun wy hk => FP.mono (FP.low HF.out (Low.keep0 hk)) hk.size)
  have HVP : Hid (∀ wy, Keep (fun _ => False) w wy → XP wy wy.heap.size q vs) := hid (fun wy hk => XP.mono (XP.low HV.out (Low.keep0 hk)) hk.size)
  obtain ⟨w0, hw0, hb0, hs0, hk0⟩ := box1 w (WC x) 57
  have HK0 := hid hk0; have HB0 := hid hb0
  clear hb0 hs0 hk0
  go_enter Try.func7, Try.ntmps7
  go_upto_region 1 with fail
  rw [← hw0]
  clear hw0
  generalize w.heap.size = xb at *
  go_wp2_with fail
  refine (awake_true _).mono ?_
  rintro r w1 ⟨rfl, hk1⟩
  have HK1 := hid (HK0.out.trans hk1)
  have HB1 := hid (hk1.get HB0.out id)
  clear hk1
  go_wp2_with fail
  refine (gr_of _ _ _ _ _ _ _).mono ?_
  rintro r w_ ⟨rfl, rfl⟩
  cases hg1 : (decide (12 < fs.length) || decide (100 < vs.length))
  rotate_left
  · go_wp2
    go_ret
    exact ⟨rfl, HK1.out.below⟩
  rw [Bool.or_eq_false_iff] at hg1
  have hlv : vs.length ≤ 100 := by have := of_decide_eq_false hg1.2; omega
  have HLV := hid hlv
  clear hg1
  go_wp2_with fail
  refine (lay_fit fs p cap vs q qc _ HCP.out HQC.out (by omega) HX.out (HFP.out _ HK1.out) (HVP.out _ HK1.out)).mono ?_
  rintro r w2 ⟨rfl, hk2⟩
  have HK2 := hid (HK1.out.trans hk2)
  have HB2 := hid (hk2.get HB1.out id)
  clear hk2
  by_cases hf0 : fitC fs vs = 0
  rotate_left
  · obtain ⟨z, hz⟩ : ∃ z, fitC fs vs = z := ⟨_, rfl⟩
    rw [hz] at hf0 ⊢
    have g1 : ((z : Int) != 0) = true := by rw [bne, beq_eq_false_iff_ne.2 (show (z : Int) ≠ 0 by omega)]; rfl
    have g2 : (z != 0) = true := by rw [bne, beq_eq_false_iff_ne.2 hf0]; rfl
    clear hz
    go_wp2
    go_ret
    exact ⟨rfl, HK2.out.below⟩
  have HF0 := hid hf0
  rw [hf0]
  clear hf0
  have HL0 := hid (fitC_zero HF0.out).1
  have HLN := hid (fitC_zero HF0.out).2.1
  have HOK := hid (layC_zero HL0.out)
  go_wp2_with fail
  refine (lay_of fs p cap _ (HFP.out _ HK2.out)).mono ?_
  rintro r w4 ⟨pa, pc, rfl, hown4, hk4⟩
  have hsz : ofSize fs = pSize fs := by unfold ofSize; rw [if_pos HL0.out]
  have hat : ofAt fs = (pRun fs).2.2 := by unfold ofAt; rw [if_pos HL0.out]
  have hal : (pRun fs).2.2.length = fs.length := by have := (at_of fs fs.length (Nat.le_refl _)).1; rwa [List.take_length] at this
  rw [hat, hal] at hown4
  rw [hsz, hat, hal, HL0.out]
  obtain ⟨w5, hw5, hb5, hs5, hk5⟩ := box1 w4 #[.int .i64 (pSize fs : Int), .slice pa fs.length pc] 45
  have HK5 := hid ((HK2.out.trans hk4).trans hk5)
  have HB5 := hid hb5
  have HX5 := hid ((hk4.trans hk5).get HB2.out id)
  have HO5 := hid (owns_keep (w' := w5) hown4 (fun i hi => hk5.block i (hown4.lt i hi).2 id))
  clear hown4 hk4 hb5 hs5 hk5 hsz hat hal
  go_upto_region 6 with fail
  rw [← hw5]
  clear hw5
  generalize w4.heap.size = ab at *
  have HAC : Hid (∀ wy, Keep (fun _ => False) w5 wy → wy.cell? ⟨ab, 0, none⟩ = some (.int .i64 (pSize fs : Int)) ∧ wy.cell? ⟨ab, 1, none⟩ = some (.slice pa fs.length pc)) := hid (fun wy hk =>
    ⟨cell_of (hk.get HB5.out id) (by rfl), cell_of (hk.get HB5.out id) (by rfl)⟩)
  have HSUM := hid (sumN_le fs HOK.out.2)
  have hl8 := HOK.out.1
  by_cases hv0 : vs.length = 0
  · have hfs := sum_zero HOK.out.2 (by rw [← HLN.out]; exact hv0)
    have hps : pSize fs = 0 := by rw [hfs]; decide
    have hfl : fs.length = 0 := by rw [hfs]; rfl
    have a0 := (HAC.out _ (Keep.refl _ w5)).1
    rw [hps] at a0
    rw [hv0, hfl]
    clear hfs hps hfl hv0
    have g1 : decide ((0 : Int) < ((0 : Nat) : Int)) = false := by decide
    go_wp2_with fail
    go_loopw [11, 12, 13, 14, 16, 17, 18] (fun e _ _ _ _ i _ wr => e = iV 0 ∧ i = iV 0 ∧ w5 = wr) (fun _ _ _ _ _ _ _ _ => 0)
    case atStart => exact ⟨rfl, rfl, rfl⟩
    case round =>
      obtain ⟨rfl, rfl, rfl⟩ := hrel
      have a0' : w5.cell? ⟨ab, 0, none⟩ = some (.int .i64 0) := a0
      go_wp2
      go_ret
      exact ⟨rfl, HK5.out.below⟩
  have hvp : 0 < vs.length := by omega
  obtain ⟨ua, hua⟩ : ∃ ua : Nat, IntKind.u64.wrap at_ = (ua : Int) := by
    refine ⟨(IntKind.u64.wrap at_).toNat, ?_⟩
    have : IntKind.u64.wrap at_ = at_ % 18446744073709551616 := by simp [IntKind.wrap, IntKind.bits, IntKind.signed]
    omega
  have hwl : IntKind.u64.wrap (vs.length : Int) = (vs.length : Int) := wraps64 _ (by omega) (by omega)
  have hne0 : ((vs.length : Int) == 0) = false := beq_eq_false_iff_ne.2 (by omega)
  have hmo : ((ua : Int).tmod (vs.length : Int)) = ((ua % vs.length : Nat) : Int) := by rw [Int.tmod_eq_emod_of_nonneg (by omega)]; exact (Int.natCast_emod ua vs.length).symm
  have hK : ua % vs.length < vs.length := Nat.mod_lt _ hvp
  generalize ua % vs.length = K at *
  have g1 : decide ((0 : Int) < (vs.length : Int)) = true := decide_eq_true (by omega)
  have g2 : decide (0 < vs.length) = true := decide_eq_true hvp
  go_wp2_with fail
  have HKL := hid hK; have HVPOS := hid hvp; have HL8 := hid hl8
  clear g1 g2 hmo hwl hua hne0 hv0
  go_loopw [11, 12, 13, 14, 16, 17, 18] (fun e n f t kd i _ wr => ∃ (j fr to_ : Nat) (kk : Int), j ≤ fs.length ∧ i = iV j ∧ e = iV (pRun (fs.take j)).1 ∧ n = iV (sumN (fs.take j)) ∧ f = iV fr ∧ t = iV to_ ∧ kd = .int .i64 kk ∧ (K < sumN (fs.take j) → (eRun fs)[K]? = some (kk, fr) ∧ to_ = fr + szN kk) ∧ Keep (fun _ => False) w5 wr) (fun _ _ _ _ _ i _ _ => fs.length + 1 - (RowKit.intOf i).toNat)
  case atStart => exact ⟨0, 0, 0, 6, Nat.zero_le _, rfl, rfl, rfl, rfl, rfl, rfl, fun h => by simp [sumN] at h, Keep.refl _ _⟩
  case round =>
    obtain ⟨j, fr, to_, kk, hj, rfl, rfl, rfl, rfl, rfl, rfl, hkk, hkr⟩ := hrel
    have HKK := hid hkk; have HKR := hid hkr
    clear hkk hkr
    by_cases hlt : j < fs.length
    · obtain ⟨g, hgk⟩ : ∃ g, fs[j]? = some g := ⟨fs[j], by simp [hlt]⟩
      have hof := HOK.out.2 g (List.mem_of_getElem? hgk)
      have hin : (0 : Int) ≤ (j : Int) ∧ (j : Int) < (fs.length : Int) := ⟨by omega, by omega⟩
      have hat : ((pRun fs).2.2.map iV)[j]? = some (iV (upN (pRun (fs.take j)).1 (szN g.kind))) := by
        have h := (at_of fs fs.length (Nat.le_refl _)).2 j g hlt hgk
        rw [List.take_length] at h
        rw [List.getElem?_map, h]; rfl
      have hpl := (pRun_le HOK.out.2 j hj).1
      have hup := upN_lt (a := (pRun (fs.take j)).1) (s := szN g.kind)
      have hge := le_upN (pRun (fs.take j)).1 (szN g.kind) hof.1
      have hdv := upN_dvd (pRun (fs.take j)).1 (szN g.kind)
      have hs8z := sz_le g.kind
      have HNX : Hid ((pRun (fs.take (j + 1))).1 = upN (pRun (fs.take j)).1 (szN g.kind) + szN g.kind * g.count.toNat) := hid (by rw [pRun_next hgk]; rfl)
      have HSX : Hid (sumN (fs.take (j + 1)) = sumN (fs.take j) + g.count.toNat) := hid (sumN_next hgk)
      have HEL := hid (fun h1 h2 => elem_at (k := K) hgk h1 h2)
      have hs64 : sumN (fs.take j) ≤ 8 * j := by
        have := sumN_le (fs.take j) (fun f hf => HOK.out.2 f (List.mem_of_mem_take hf))
        rw [List.length_take] at this
        omega
      obtain ⟨ga, rfl⟩ := owns_some HO5.out (by omega)
      have HCA : Hid (∀ wy, Keep (fun _ => False) w5 wy → wy.cell? ⟨ga, j, none⟩ = some (iV (upN (pRun (fs.take j)).1 (szN g.kind)))) := hid (fun wy h => by
        have := owns_cell (k := j) (owns_keep (w' := wy) HO5.out (fun i hi => h.block i (HO5.out.lt i hi).2 id)) hlt
        rw [this]; exact hat)
      obtain ⟨lb, off, hpp, hb, d0, d1, d2⟩ := FP.at (HFP.out _ (HK5.out.trans HKR.out)) hgk
      have HFC : Hid (∀ wy, Keep (fun _ => False) w5 wy → wy.cell? ⟨lb, off + j * 3 + 1, none⟩ = some (.int .i64 g.kind) ∧ wy.cell? ⟨lb, off + j * 3 + 2, none⟩ = some (.int .i64 g.count)) := hid (fun wy h => by
        obtain ⟨lb', off', e', _, _, d1', d2'⟩ := FP.at (HFP.out _ (HK5.out.trans h)) hgk
        rw [hpp] at e'
        injection e' with e'
        injection e' with e1 e2
        subst e1; subst e2
        exact ⟨d1', d2'⟩)
      subst hpp
      have HSC := hid (sz_cast g.kind)
      have hak : upN (pRun (fs.take j)).1 (szN g.kind) ≤ 700 := by omega
      clear hgk hat hb d0 d1 d2 hpl
      generalize hate : upN (pRun (fs.take j)).1 (szN g.kind) = ak at *
      generalize (pRun (fs.take j)).1 = ek at *
      generalize sumN (fs.take j) = sn at *
      obtain ⟨nm, kd, ct⟩ := g
      obtain ⟨cn, rfl⟩ := Int.eq_ofNat_of_zero_le (a := ct) (by have := hof.2; simp only at this; omega)
      have hof' : 1 ≤ szN kd ∧ (1 : Int) ≤ (cn : Int) ∧ (cn : Int) ≤ 8 := hof
      clear hof hate
      simp only [Int.toNat_natCast] at HFC HNX HSX HEL HSC hup hs8z hdv
      have hcn : cn ≤ 8 := by omega
      have hz1 := hof'.1
      clear hof'
      have HZ1 := hid hz1
      have hc1 := (HFC.out _ HKR.out).1
      go_wp2_with fail
      refine (size_of kd _).mono ?_
      rintro r wx ⟨rfl, hkx⟩
      have HKX := hid (HKR.out.trans hkx)
      clear hkx hc1
      rw [HSC.out]
      obtain ⟨zz, hzz⟩ : ∃ zz, szN kd = zz := ⟨_, rfl⟩
      have HZZ := hid hzz
      rw [hzz] at hup hs8z hdv hz1 HNX HEL ⊢
      clear hzz HSC
      have hca := HCA.out _ HKX.out
      have a1 := (HAC.out _ HKX.out).2
      have g1 : decide ((ak : Int) < (ek : Int)) = false := decide_eq_false (by omega)
      have g2 : decide (ak < ek) = false := decide_eq_false (by omega)
      have hne0 : ((zz : Int) == 0) = false := beq_eq_false_iff_ne.2 (by omega)
      have hmo : ((ak : Int).tmod (zz : Int)) = 0 := by rw [Int.tmod_eq_emod_of_nonneg (by omega), ← Int.natCast_emod, hdv]; rfl
      have g3 : decide ((zz : Int) ≤ (ak : Int) - (ek : Int)) = false := decide_eq_false (by omega)
      go_upto_region 20 with fail
      clear g1 g2 g3 hmo hne0 hca a1
      obtain ⟨qq, hqq⟩ : ∃ qq : Bool, (decide (sn ≤ K) && decide (K < sn + cn)) = qq := ⟨_, rfl⟩
      have HQQ := hid hqq
      clear hqq
      go_cut [103] from 50 to 142 (fun v wy => v = .bool qq ∧ wx = wy)
      case first =>
        have hc2 := (HFC.out _ HKX.out).2
        by_cases c1 : sn ≤ K
        · have g1 : decide ((sn : Int) ≤ (K : Int)) = true := decide_eq_true (by omega)
          have g2 : decide (sn ≤ K) = true := decide_eq_true c1
          have hq : qq = decide (K < sn + cn) := by rw [← HQQ.out, g2, Bool.true_and]
          have g3 : decide ((K : Int) < (sn : Int) + (cn : Int)) = decide (K < sn + cn) := decide_eq_decide.2 (by omega)
          rw [← hq] at g3
          clear hq
          go_wp2
          go_meet
          case rel => exact ⟨rfl, rfl⟩
        · have g1 : decide ((sn : Int) ≤ (K : Int)) = false := decide_eq_false (by omega)
          have g2 : decide (sn ≤ K) = false := decide_eq_false c1
          have hq : qq = false := by rw [← HQQ.out, g2, Bool.false_and]
          subst hq
          go_wp2
          go_meet
          case rel => exact ⟨rfl, rfl⟩
      case rest =>
      obtain ⟨rfl, rfl⟩ := hcut
      go_upto_if 103 with fail
      go_cut [13, 14, 16] from 50 to 142 (fun f t kv wy => ∃ (fr' to' : Nat) (kk' : Int), f = iV fr' ∧ t = iV to' ∧ kv = .int .i64 kk' ∧ (K < sn + cn → (eRun fs)[K]? = some (kk', fr') ∧ to' = fr' + szN kk') ∧ wx = wy)
      case first =>
        cases qq
        · go_wp2
          go_meet
          case rel => exact ⟨fr, to_, kk, rfl, rfl, rfl, fun h => HKK.out (by
            have h2 := HQQ.out
            rw [decide_eq_true h, Bool.and_true] at h2
            have := of_decide_eq_false h2
            omega), rfl⟩
        · have h2 := HQQ.out
          rw [Bool.and_eq_true] at h2
          have k1 : sn ≤ K := of_decide_eq_true h2.1
          have k2 : K < sn + cn := of_decide_eq_true h2.2
          have HEL2 := hid (HEL.out k1 k2)
          obtain ⟨kn, hkn⟩ : ∃ kn, K - sn = kn := ⟨_, rfl⟩
          have hsub : (K : Int) - (sn : Int) = (kn : Int) := by omega
          have hkm : zz * kn ≤ 64 := mul_le8 (by omega) (by omega)
          have hmul : (kn : Int) * (zz : Int) = ((zz * kn : Nat) : Int) := by rw [Int.mul_comm]; exact (Int.natCast_mul _ _).symm
          rw [hkn] at HEL2
          generalize zz * kn = km at *
          have hca := HCA.out _ HKX.out
          have a1 := (HAC.out _ HKX.out).2
          have hc1 := (HFC.out _ HKX.out).1
          clear h2 hkn
          go_wp2
          go_meet
          case rel => exact ⟨ak + km, ak + km + zz, kd, by go_num, by go_num, rfl, fun _ => ⟨HEL2.out, by rw [HZZ.out]⟩, rfl⟩
      case rest =>
      obtain ⟨fr2, to2, kk2, rfl, rfl, rfl, hkk2, rfl⟩ := hcut
      have HKK2 := hid hkk2
      clear hkk2
      have hc2 := (HFC.out _ HKX.out).2
      go_upto_region 25 with fail
      clear hc2
      have hc2 := (HFC.out _ HKX.out.drew).2
      have hca := HCA.out _ HKX.out.drew
      have a1 := (HAC.out _ HKX.out.drew).2
      have hmul2 : zz * cn ≤ 64 := mul_le8 (by omega) (by omega)
      have hcast : ((zz : Int) * (cn : Int)) = ((zz * cn : Nat) : Int) := (Int.natCast_mul _ _).symm
      generalize zz * cn = mm at *
      refine Plan.wp_region_pl [(false, 0, []), (false, 1, []), (false, 2, []), (false, 3, []), (false, 4, []), (false, 5, []), (false, 6, []), (false, 7, []), (false, 8, []), (false, 9, []), (false, 10, []), (false, 11, []), (false, 12, []), (false, 13, [])] (by as_aux_lemma => kernel_rfl) (by as_aux_lemma => kernel_rfl) ?_
      iterate 14 (refine Plan.pl_st rfl ?_; go_big_quiet_step (fail); refine wpQuiet_nil ?_)
      refine Plan.pl_end ?_
      clear hc2 hca a1
      go_wp2
      go_roundw
      case rel => exact ⟨j + 1, fr2, to2, kk2, by omega, by go_num, by rw [HNX.out]; go_num, by rw [HSX.out]; go_num, rfl, rfl, rfl, by rw [HSX.out]; exact HKK2.out, HKX.out.drew⟩
      case measure => simp [RowKit.intOf]; omega
    · obtain rfl : j = fs.length := by omega
      rw [List.take_length] at *
      obtain ⟨he, hto⟩ := HKK.out (by rw [← HLN.out]; exact HKL.out)
      obtain ⟨v, hvk⟩ : ∃ v, vs[K]? = some v := ⟨vs[K]'(HKL.out), by rw [List.getElem?_eq_getElem]⟩
      have hin3 := eRun_in HOK.out.2 he
      have hkind : kindB kk = true := hin3.1
      have hap := apart_law HF0.out he hvk (clamp_fits hkind x)
      simp only at hap
      rw [← hto] at hap
      have HAP := hid hap
      have HKD := hid hkind
      have HFR : Hid (fr ≤ to_ ∧ to_ ≤ pSize fs) := hid ⟨by omega, hap.2.2.2.1⟩
      have HVK := hid hvk
      have hen : (pRun fs).1 ≤ pSize fs := by
        have h3 := (pRun_le HOK.out.2 fs.length (Nat.le_refl _)).2.1
        rw [List.take_length] at h3
        exact le_upN _ _ h3
      have HPK := hid (fun (q' : Option Addr) (c' : Nat) (wy : World) (h : Keep (fun _ => False) w wy) (hc : (vs.set K (clampW kk x)).length ≤ c') (hx : XP wy wy.heap.size q' (vs.set K (clampW kk x))) =>
        lay_pack fs p cap (vs.set K (clampW kk x)) q' c' wy HCP.out hc (by rw [List.length_set]; omega) (fun y hy => by
          rcases List.mem_or_eq_of_mem_set hy with h | h
          · exact HX.out y h
          · rw [h]; exact clamp_fit HXX.out) (HFP.out _ h) hx)
      rw [hap.1] at HPK
      have HPV := hid (fun (wy : World) (h : Keep (fun _ => False) w wy) => lay_pack fs p cap vs q qc wy HCP.out HQC.out (by omega) HX.out (HFP.out _ h) (HVP.out _ h))
      rw [HF0.out] at HPV
      clear hap he hto hvk hin3 hkind HKK
      have a0 := (HAC.out _ HKR.out).1
      have hj0 : decide ((fs.length : Int) < (fs.length : Int)) = false := decide_eq_false (by omega)
      have hj1 : decide (fs.length < fs.length) = false := decide_eq_false (by omega)
      have g1 : decide ((pSize fs : Int) < ((pRun fs).1 : Int)) = false := decide_eq_false (by omega)
      have g2 : decide (pSize fs < (pRun fs).1) = false := decide_eq_false (by omega)
      have g3 : ((vs.length : Int) == 0) = false := beq_eq_false_iff_ne.2 (by omega)
      have g4 : (vs.length == 0) = false := beq_eq_false_iff_ne.2 (by omega)
      generalize (pRun fs).1 = en at *
      generalize hps : pSize fs = ps at *
      have HKE := hid (HK5.out.trans HKR.out)
      have hm13 : (wr.alloc (.cells #[] 57)).ownsRow wr.heap.size 57 3 (.slice (some ⟨wr.heap.size, 0, none⟩) 0 0) 0 [] := World.ownsRow_made wr #[] 0 (Nat.le_refl _) (by unfold maxLen; omega) (by simp)
      have HM13 := hid hm13
      have HK13 : Hid (Keep (fun _ => False) wr (wr.alloc (.cells #[] 57))) := hid ((Keep.refl (fun _ => False) wr).alloc _)
      clear hm13
      go_wp2_with (at_builtin; go_loud (refine wpList_append_rd rfl (.tmp 160) (.tmp 161) _ rfl wr.heap.size _ i1 _ 3 24 Try.underlying23 hi1 hy0 hy1 hy2 rfl (by decide) _ 0 [] (by rfl) HM13.out _ vs.length (vs.flatMap wcl) (by rfl) (rd_widesN (HVP.out _ (HKE.out.trans HK13.out)) HQN.out) (by unfold maxLen; omega) (by omega) (by simp) ?_); go_loud (intro v' wA hown5 hgrow5 hat5 hn5; rw [Nat.zero_add, List.nil_append] at hown5; obtain ⟨gv, gd, rfl⟩ := own_ne hown5 hn5; have hkA := HK13.out.grown hgrow5 (fun k hk => .inl (HM13.out.lt k hk).1); have HKA := hid hkA; have HOA := hid hown5; have hxb := (HKR.out.trans hkA).get HX5.out id; have x0 := cell_of hxb (i := 0) (by rfl); have x1 := cell_of hxb (i := 1) (by rfl); have x2 := cell_of hxb (i := 2) (by rfl); clear hown5 hgrow5 hat5 hn5 hkA hxb))
      clear hj0 hj1 g1 g2 g3 g4 a0 x0 x1 x2
      refine (f_clamp kk HKD.out x HXX.out _).mono ?_
      rintro r wB ⟨rfl, hkB⟩
      have HKB := hid (HKA.out.trans hkB)
      have HOB := hid (owns_keep HOA.out (fun i hi => hkB.block i (HOA.out.lt i hi).2 id))
      have hn0 : (0 : Int) ≤ (K : Int) ∧ (K : Int) < (vs.length : Int) := ⟨by omega, by omega⟩
      have y0 : wB.cell? ⟨gv, K * 3, none⟩ = some (.bool v.neg) := owns3_cell wcl_len HOB.out HVK.out (r := 0) (u := .bool v.neg) rfl
      have y1 := owns3_cell wcl_len HOB.out HVK.out (r := 1) (u := .int .u64 (v.hi : Int)) rfl
      have y2 := owns3_cell wcl_len HOB.out HVK.out (r := 2) (u := .int .u64 (v.lo : Int)) rfl
      have f0 := owns_free HOB.out (K * 3)
      have f1 := owns_free HOB.out (K * 3 + 1)
      have f2 := owns_free HOB.out (K * 3 + 2)
      have hset := owns_set3 (owns_set3 (owns_set3 HOB.out (K * 3) (.bool (clampW kk x).neg)) (K * 3 + 1) (.int .u64 ((clampW kk x).hi : Int))) (K * 3 + 2) (.int .u64 ((clampW kk x).lo : Int))
      rw [wcl_set vs K (clampW kk x) HKL.out] at hset
      have HSET := hid hset
      have hbase : wr.heap.size ≤ gv := (HOB.out.lt gv (by simp [Value.ownBlock])).1
      have HKC := hid (((HKB.out.setCell_new (p := ⟨gv, K * 3, none⟩) hbase (.bool (clampW kk x).neg)).setCell_new (p := ⟨gv, K * 3 + 1, none⟩) hbase (.int .u64 ((clampW kk x).hi : Int))).setCell_new (p := ⟨gv, K * 3 + 2, none⟩) hbase (.int .u64 ((clampW kk x).lo : Int)))
      clear hkB hset hbase
      have HCL : Hid ((vs.set K (clampW kk x)).length = vs.length) := hid (by rw [List.length_set])
      have HEY : Hid ((vs.set K (clampW kk x))[K]? = some (clampW kk x)) := hid (List.getElem?_set_self HKL.out)
      generalize clampW kk x = cw at *
      go_upto_region 30 with fail
      clear y0 y1 y2 f0 f1 f2
      have hset := HSET.out
      have HKE2 := hid (HKE.out.trans HKC.out)
      generalize ((wB.setCell ⟨gv, K * 3, none⟩ (.bool cw.neg)).setCell ⟨gv, K * 3 + 1, none⟩ (.int .u64 (cw.hi : Int))).setCell ⟨gv, K * 3 + 2, none⟩ (.int .u64 (cw.lo : Int)) = wC at *
      clear hset
      go_wp2_with fail
      refine (HPV.out _ HKE2.out).mono ?_
      rintro r wD ⟨rfl, hkD⟩
      have HKD2 := hid (HKE2.out.trans hkD)
      have HOD := hid (owns_keep HSET.out (fun i hi => hkD.block i (HSET.out.lt i hi).2 id))
      clear hkD
      have hpk := HPK.out (some ⟨gv, 0, none⟩) gd wD HKD2.out (by rw [HCL.out]; exact owns_cap HOD.out) (xp_own HCL.out HOD.out)
      rw [HCL.out] at hpk
      go_wp2_with fail
      refine hpk.mono ?_
      rintro r wE ⟨rfl, hkE⟩
      have HKE3 := hid (HKD2.out.trans hkE)
      have HOE := hid (owns_keep HOD.out (fun i hi => hkE.block i (HOD.out.lt i hi).2 id))
      clear hkE hpk
      have HAP1 := hid HAP.out.2.1; have HAP2 := hid HAP.out.2.2.1; have HAP3 := hid HAP.out.2.2.2.2
      generalize packS fs vs = sa at *
      generalize packS fs (vs.set K cw) = sb at *
      obtain ⟨b2, o2, rfl, hb2, z0, z1, z2⟩ := XP.at (HVP.out _ HKE3.out.drew) HVK.out
      have y0 : wE.drew.cell? ⟨gv, K * 3, none⟩ = some (.bool cw.neg) := owns3_cell (w := wE.drew) wcl_len HOE.out HEY.out (r := 0) (u := .bool cw.neg) rfl
      have y1 := owns3_cell (w := wE.drew) wcl_len HOE.out HEY.out (r := 1) (u := .int .u64 (cw.hi : Int)) rfl
      have y2 := owns3_cell (w := wE.drew) wcl_len HOE.out HEY.out (r := 2) (u := .int .u64 (cw.lo : Int)) rfl
      have s1 : (0 : Int) ≤ (0 : Int) ∧ (0 : Int) ≤ (fr : Int) ∧ (fr : Int) ≤ (sa.size : Int) := ⟨by omega, by omega, by have := HFR.out; have := HAP1.out; omega⟩
      have s2 : (0 : Int) ≤ (0 : Int) ∧ (0 : Int) ≤ (fr : Int) ∧ (fr : Int) ≤ (sb.size : Int) := ⟨by omega, by omega, by have := HFR.out; have := HAP2.out; omega⟩
      have s3 : (0 : Int) ≤ (to_ : Int) ∧ (to_ : Int) ≤ (sa.size : Int) ∧ (sa.size : Int) ≤ (sa.size : Int) := ⟨by omega, by have := HFR.out; have := HAP1.out; omega, by omega⟩
      have s4 : (0 : Int) ≤ (to_ : Int) ∧ (to_ : Int) ≤ (sb.size : Int) ∧ (sb.size : Int) ≤ (sb.size : Int) := ⟨by omega, by have := HFR.out; have := HAP2.out; omega, by omega⟩
      have s5 : (0 : Int) ≤ (fr : Int) ∧ (fr : Int) ≤ (to_ : Int) ∧ (to_ : Int) ≤ (sa.size : Int) := ⟨by omega, by have := HFR.out; omega, by have := HFR.out; have := HAP1.out; omega⟩
      have s6 : (0 : Int) ≤ (fr : Int) ∧ (fr : Int) ≤ (to_ : Int) ∧ (to_ : Int) ≤ (sb.size : Int) := ⟨by omega, by have := HFR.out; omega, by have := HFR.out; have := HAP2.out; omega⟩
      have e1 : ((sa.extract 0 fr).toList == (sb.extract 0 fr).toList) = true := by rw [HAP3.out.1]; simp
      have e2 : ((sa.extract to_ sa.size).toList == (sb.extract to_ sb.size).toList) = true := by rw [HAP3.out.2.1]; simp
      have h3 := HAP3.out.2.2
      go_wp2_with fail
      refine Plan.wp_region_pl [(false, 0, []), (false, 1, []), (false, 2, []), (false, 3, []), (false, 4, []), (false, 5, []), (false, 6, []), (false, 7, []), (false, 8, []), (false, 9, []), (false, 10, []), (false, 11, []), (false, 12, []), (false, 13, []), (false, 14, []), (false, 15, []), (false, 16, []), (false, 17, []), (false, 18, []), (false, 19, []), (false, 20, []), (false, 21, []), (false, 22, []), (false, 23, []), (false, 24, []), (false, 25, []), (false, 26, []), (false, 27, []), (false, 28, []), (false, 29, []), (false, 30, []), (false, 31, []), (false, 32, []), (false, 33, []), (false, 34, []), (false, 35, []), (false, 36, []), (false, 37, []), (false, 38, []), (false, 39, []), (false, 40, []), (false, 41, []), (false, 42, []), (false, 43, []), (false, 44, []), (false, 45, [])] (by as_aux_lemma => kernel_rfl) (by as_aux_lemma => kernel_rfl) ?_
      by_cases hcv : cw = v
      · have e3 : ((sa.extract fr to_).toList == (sb.extract fr to_).toList) = true := by rw [h3.2 hcv]; simp
        subst hcv
        have hcmp := eql_same cw wE.drew
        clear h3
        iterate 46 (refine Plan.pl_st rfl ?_; go_big_quiet_step (fail); refine wpQuiet_nil ?_)
        refine Plan.pl_end ?_
        go_wp2
        go_ret
        exact ⟨rfl, HKE3.out.drew.below⟩
      · have e3 : ((sa.extract fr to_).toList == (sb.extract fr to_).toList) = false := beq_eq_false_iff_ne.2 (fun h => hcv (h3.1 (toList_inj h)))
        have hcmp := eql_other hcv wE.drew
        clear h3
        iterate 42 (refine Plan.pl_st rfl ?_; go_big_quiet_step (fail); refine wpQuiet_nil ?_)
        refine Plan.pl_st rfl ?_
        refine quiet_eql_w rfl _ _ _ _ _ _ _ rfl rfl rfl (by kernel_rfl) hcmp ?_
        refine wpQuiet_nil ?_
        simp only [Act.put, List.setIfInBounds_toArray, List.set_cons_succ, List.set_cons_zero]
        iterate 3 (refine Plan.pl_st rfl ?_; go_big_quiet_step (fail); refine wpQuiet_nil ?_)
        refine Plan.pl_end ?_
        go_wp2
        go_ret
        exact ⟨rfl, HKE3.out.drew.below⟩
end Go.Proofs.Ytkgkcnmnfhehfaa

namespace Go.Proofs.Ytkgkcnmnfhehfaa
open Go.ChangeShapes Go.WideShapes Go.ChangeAt Go.RowKit Go.Proofs.Heap Go.Proofs.Sch

section
variable {H : Type} {enc : TypeId × Value → H} {W : World}

theorem addr_add (b off i : Nat) : (⟨b, off, none⟩ : Addr).add i = ⟨b, off + i, none⟩ := by unfold Addr.add; split <;> simp_all

/-- A row of things that a law is handed. -/
theorem open_row {α : Type} {z : Nat} {t e : TypeId} (ht : Try.prog.underlying t = some (.slice e)) (hsz : Try.prog.cellsOf e = z) (at_ : World → Nat → Nat → α → Prop)
    (hel : ∀ (a : Addr) (n : Nat) (cs : List Value) (D : DataW H × List MemPlace), W.cells? 0 a z = some cs → DataW.trod enc Try.prog W 0 (fun _ => true) true n e cs = some D → a.spot = none ∧ a.block < W.heap.size ∧ ∃ x : α, at_ W a.block a.off x)
    {fuel : Nat} {cs : List Value} {x : DataW H × List MemPlace} (h : DataW.trod enc Try.prog W 0 (fun _ => true) true fuel t cs = some x) :
    ∃ (p : Option Addr) (c : Nat) (l : List α), cs = [.slice p l.length c] ∧ l.length ≤ c ∧ RowP z at_ W W.heap.size p l := by
  rcases Go.Deep.open_slice ht h with ⟨hcs, _⟩ | ⟨a, len, cap, m, n, D, Pl, hcs, _, hl, hm, hz', _, hcell⟩
  · exact ⟨none, 0, [], hcs, Nat.le_refl _, .inl rfl⟩
  · have hmc : m = cap := by simpa using hz'
    subst hmc
    rw [hsz] at hcell
    by_cases hl0 : len = 0
    · subst hl0
      exact ⟨some a, m, [], hcs, Nat.zero_le _, .inl rfl⟩
    · obtain ⟨b, off, spot⟩ := a
      have hblk : spot = none ∧ b < W.heap.size := by
        obtain ⟨cs', hc1, hc2⟩ := hcell 0 (by omega)
        obtain ⟨h1, h2, _⟩ := hel _ _ _ _ hc1 hc2
        refine ⟨?_, by simpa [Addr.add] using h2⟩
        simpa [Addr.add] using h1
      obtain ⟨rfl, hb⟩ := hblk
      have key : ∀ k, k ≤ len → ∃ l : List α, l.length = k ∧ ∀ i y, l[i]? = some y → at_ W b (off + i * z) y := by
        intro k
        induction k with
        | zero => exact fun _ => ⟨[], rfl, fun i y hy => by simp at hy⟩
        | succ k ih =>
          intro hk
          obtain ⟨l, hll, hla⟩ := ih (by omega)
          obtain ⟨cs', hc1, hc2⟩ := hcell k (by omega)
          obtain ⟨_, _, y, hy⟩ := hel _ _ _ _ hc1 hc2
          rw [addr_add] at hy
          refine ⟨l ++ [y], by simp [hll], fun i u hu => ?_⟩
          by_cases hik : i < k
          · rw [List.getElem?_append_left (by omega)] at hu
            exact hla i u hu
          · rw [List.getElem?_append_right (by omega)] at hu
            have : i = k := by
              have := (List.getElem?_eq_some_iff.1 hu).1
              simp at this
              omega
            subst this
            simp [hll] at hu
            subst hu
            exact hy
      obtain ⟨l, hll, hla⟩ := key len (Nat.le_refl _)
      subst hll
      exact ⟨_, m, l, hcs, hl, .inr ⟨b, off, rfl, hb, hla⟩⟩

theorem spot_of {a : Addr} {v : Value} (h : W.cell? (a.add 0) = some v) : a.spot = none ∧ a.block < W.heap.size := by
  obtain ⟨b, off, spot⟩ := a
  have h1 : spot = none := by simpa [Addr.add] using World.cell?_spot h
  subst h1
  rw [addr_add] at h
  exact ⟨rfl, World.block_lt_of_cell? W _ h⟩

set_option maxRecDepth 100000 in
theorem open_field (a : Addr) (n : Nat) (cs : List Value) (D : DataW H × List MemPlace) (hc : W.cells? 0 a 3 = some cs) (h : DataW.trod enc Try.prog W 0 (fun _ => true) true n 41 cs = some D) :
    a.spot = none ∧ a.block < W.heap.size ∧ ∃ x : Fld, FldAt W a.block a.off x := by
  have hs_int : Try.prog.cellsOf 3 = 1 := by kernel_rfl
  have hs_string : Try.prog.cellsOf 9 = 1 := by kernel_rfl
  have hs_kind : Try.prog.cellsOf 39 = 1 := by kernel_rfl
  obtain ⟨_, hlen, hat⟩ := World.cells?_some hc
  obtain ⟨y0, y1, y2, n', _, _, t0, t1, t2⟩ := Go.Deep.trod_struct3 Try.underlying41 h
  match cs, hlen with
  | [u0, u1, u2], _ =>
    have g0 := hat 0 (by omega)
    have g1 := hat 1 (by omega)
    have g2 := hat 2 (by omega)
    simp only [hs_int, hs_string, hs_kind, List.drop, List.take] at t0 t1 t2
    obtain ⟨K0, eK0, _, _⟩ := DataW.trod_string Try.underlying9 t0
    obtain ⟨K1, eK1, _, _⟩ := DataW.trod_int Try.underlying39 t1
    obtain ⟨K2, eK2, _, _⟩ := DataW.trod_int Try.underlying3 t2
    simp at eK0 eK1 eK2
    subst eK0; subst eK1; subst eK2
    obtain ⟨h1, h2⟩ := spot_of g0
    obtain ⟨b, off, spot⟩ := a
    simp only at h1 h2
    subst h1
    rw [addr_add] at g0 g1 g2
    exact ⟨rfl, h2, ⟨K0, K1, K2⟩, g0, g1, g2⟩

set_option maxRecDepth 100000 in
theorem open_fields {fuel : Nat} {cs : List Value} {x : DataW H × List MemPlace} (h : DataW.trod enc Try.prog W 0 (fun _ => true) true fuel 22 cs = some x) :
    ∃ (p : Option Addr) (c : Nat) (l : List Fld), cs = [.slice p l.length c] ∧ l.length ≤ c ∧ FP W W.heap.size p l :=
  open_row Try.underlying22 (by kernel_rfl) FldAt (fun a n cs D hc h => open_field a n cs D hc h) h

end
end Go.Proofs.Ytkgkcnmnfhehfaa

namespace Go.Proofs.Ytkgkcnmnfhehfaa
open Go.ChangeShapes Go.WideShapes Go.ChangeAt Go.RowKit Go.Proofs.Heap Go.Proofs.Sch

section
variable {H : Type} {enc : TypeId × Value → H} {W : World}

/-- No weight is past what an argument may have. -/
def SZ (P : Program) (t : TypeId) (D : DataW H) : Prop := ∀ n ∈ D.weights P t, n ≤ reachBytes

theorem sz_all {P : Program} {e : TypeId} : ∀ {l : List (DataW H)} {d : DataW H}, d ∈ l → ∀ n ∈ d.weights P e, n ∈ DataW.weightsAll P e l
  | [], _, h, _, _ => by simp at h
  | x :: l, d, h, n, hn => by
    simp only [DataW.weightsAll, List.mem_append]
    rcases List.mem_cons.1 h with rfl | h
    · exact .inl hn
    · exact .inr (sz_all h n hn)
theorem SZ.elem {P : Program} {t e : TypeId} {l s : List (DataW H)} (h : SZ P t (.slice l s)) (ht : P.underlying t = some (.slice e)) {d : DataW H} (hd : d ∈ l) : SZ P e d := fun n hn => h n (by
  simp only [DataW.weights, ht, List.mem_cons, List.mem_append]
  exact .inr (.inl (sz_all hd n hn)))
theorem SZ.len {P : Program} {t e : TypeId} {l s : List (DataW H)} (h : SZ P t (.slice l s)) (ht : P.underlying t = some (.slice e)) : l.length * P.bytesOf e ≤ reachBytes := by
  have := h ((l.length + s.length) * P.bytesOf e) (by simp [DataW.weights, ht])
  rw [Nat.add_mul] at this
  omega
theorem SZ.part {P : Program} {t : TypeId} {fs : Array Field} {l : List (DataW H)} (h : SZ P t (.agg l)) (ht : P.underlying t = some (.struct fs)) {j : Nat} {u : TypeId} {d : DataW H} (hu : (fs.toList.map (·.type))[j]? = some u) (hd : l[j]? = some d) : SZ P u d := fun n hn => h n (by
  simp only [DataW.weights, ht]
  exact DataW.weights_mem_each hu hd n hn)
theorem SZ.arg {P : Program} {ts : List TypeId} {ds : List (DataW H)} (h : (DataW.weightsEach P ts ds).all (· ≤ reachBytes) = true) {j : Nat} {t : TypeId} {d : DataW H} (ht : ts[j]? = some t) (hd : ds[j]? = some d) : SZ P t d := fun n hn => by
  have := List.all_eq_true.1 h _ (DataW.weights_mem_each ht hd n hn)
  simpa using this

/-- A row of things that a law is handed. -/
theorem open_row_s {α : Type} {z : Nat} {t e : TypeId} (ht : Try.prog.underlying t = some (.slice e)) (hsz : Try.prog.cellsOf e = z) (at_ : World → Nat → Nat → α → Prop) (Q : α → Prop)
    (hel : ∀ (a : Addr) (n : Nat) (cs : List Value) (D : DataW H × List MemPlace), W.cells? 0 a z = some cs → DataW.trod enc Try.prog W 0 (fun _ => true) true n e cs = some D → SZ Try.prog e D.1 → a.spot = none ∧ a.block < W.heap.size ∧ ∃ x : α, at_ W a.block a.off x ∧ Q x)
    {fuel : Nat} {cs : List Value} {x : DataW H × List MemPlace} (h : DataW.trod enc Try.prog W 0 (fun _ => true) true fuel t cs = some x) (hx : SZ Try.prog t x.1) :
    ∃ (p : Option Addr) (c : Nat) (l : List α), cs = [.slice p l.length c] ∧ l.length ≤ c ∧ RowP z at_ W W.heap.size p l ∧ (∀ y ∈ l, Q y) ∧ l.length * Try.prog.bytesOf e ≤ reachBytes := by
  rcases Go.Deep.open_slice ht h with ⟨hcs, _⟩ | ⟨a, len, cap, m, n, D, Pl, hcs, _, hl, hm, hz', hxe, hcell⟩
  · exact ⟨none, 0, [], hcs, Nat.le_refl _, .inl rfl, fun y hy => by simp at hy, by simp⟩
  · have hmc : m = cap := by simpa using hz'
    subst hmc
    rw [hsz] at hcell
    rw [hxe] at hx
    have hlen := hx.len ht
    have hpart : ∀ i, i < len → SZ Try.prog e (D i) := fun i hi => hx.elem ht (List.mem_map.2 ⟨i, List.mem_range.2 hi, rfl⟩)
    simp only [List.length_map, List.length_range] at hlen
    by_cases hl0 : len = 0
    · subst hl0
      exact ⟨some a, m, [], hcs, Nat.zero_le _, .inl rfl, fun y hy => by simp at hy, by simp⟩
    · obtain ⟨b, off, spot⟩ := a
      have hblk : spot = none ∧ b < W.heap.size := by
        obtain ⟨cs', hc1, hc2⟩ := hcell 0 (by omega)
        obtain ⟨h1, h2, _⟩ := hel _ _ _ _ hc1 hc2 (hpart 0 (by omega))
        refine ⟨?_, by simpa [Addr.add] using h2⟩
        simpa [Addr.add] using h1
      obtain ⟨rfl, hb⟩ := hblk
      have key : ∀ k, k ≤ len → ∃ l : List α, l.length = k ∧ (∀ i y, l[i]? = some y → at_ W b (off + i * z) y) ∧ ∀ y ∈ l, Q y := by
        intro k
        induction k with
        | zero => exact fun _ => ⟨[], rfl, fun i y hy => by simp at hy, fun y hy => by simp at hy⟩
        | succ k ih =>
          intro hk
          obtain ⟨l, hll, hla, hlq⟩ := ih (by omega)
          obtain ⟨cs', hc1, hc2⟩ := hcell k (by omega)
          obtain ⟨_, _, y, hy, hq⟩ := hel _ _ _ _ hc1 hc2 (hpart k (by omega))
          rw [addr_add] at hy
          refine ⟨l ++ [y], by simp [hll], fun i u hu => ?_, fun u hu => ?_⟩
          · by_cases hik : i < k
            · rw [List.getElem?_append_left (by omega)] at hu
              exact hla i u hu
            · rw [List.getElem?_append_right (by omega)] at hu
              have : i = k := by
                have := (List.getElem?_eq_some_iff.1 hu).1
                simp at this
                omega
              subst this
              simp [hll] at hu
              subst hu
              exact hy
          · rcases List.mem_append.1 hu with hu | hu
            · exact hlq u hu
            · rw [List.mem_singleton.1 hu]; exact hq
      obtain ⟨l, hll, hla, hlq⟩ := key len (Nat.le_refl _)
      subst hll
      exact ⟨_, m, l, hcs, hl, .inr ⟨b, off, rfl, hb, hla⟩, hlq, hlen⟩

theorem bytes_field : Try.prog.bytesOf 41 = 32 := by kernel_rfl
theorem reach_eq : reachBytes = 140737488351232 := rfl

set_option maxRecDepth 100000 in
theorem open_fields_s {fuel : Nat} {cs : List Value} {x : DataW H × List MemPlace} (h : DataW.trod enc Try.prog W 0 (fun _ => true) true fuel 22 cs = some x) (hx : SZ Try.prog 22 x.1) :
    ∃ (p : Option Addr) (c : Nat) (l : List Fld), cs = [.slice p l.length c] ∧ l.length ≤ c ∧ FP W W.heap.size p l ∧ l.length ≤ 4398046510976 := by
  obtain ⟨p, c, l, h1, h2, h3, _, h4⟩ := open_row_s Try.underlying22 (by kernel_rfl) FldAt (fun _ => True) (fun a n cs D hc h _ => by obtain ⟨a1, a2, x, a3⟩ := open_field a n cs D hc h; exact ⟨a1, a2, x, a3, trivial⟩) h hx
  rw [bytes_field, reach_eq] at h4
  exact ⟨p, c, l, h1, h2, h3, by omega⟩

def CmpS (c : Cmp) : Prop := c.fs.length ≤ 4398046510976
end
end Go.Proofs.Ytkgkcnmnfhehfaa

namespace Go.Proofs.Ytkgkcnmnfhehfaa
open Go.ChangeShapes Go.WideShapes Go.ChangeAt Go.RowKit Go.Proofs.Heap Go.Proofs.Sch Go.Proofs.Wide

section
variable {H : Type} {enc : TypeId × Value → H} {W : World}

theorem u64_wf {z : Int} (h : (Lit.int .u64 z).wf = true) : 0 ≤ z ∧ z < 18446744073709551616 := by
  have h : IntKind.u64.min ≤ z ∧ z ≤ IntKind.u64.max := by simpa [Lit.wf] using h
  have h1 : IntKind.u64.min = 0 := by decide
  have h2 : IntKind.u64.max = 18446744073709551615 := by decide
  omega

def IntFit (w : World) (b o : Nat) (x : WI) : Prop := IntAt w b o x ∧ x.fit

set_option maxRecDepth 100000 in
theorem open_wide (a : Addr) (n : Nat) (cs : List Value) (D : DataW H × List MemPlace) (hc : W.cells? 0 a 3 = some cs) (h : DataW.trod enc Try.prog W 0 (fun _ => true) true n 57 cs = some D) :
    a.spot = none ∧ a.block < W.heap.size ∧ ∃ x : WI, IntFit W a.block a.off x := by
  have hs_bool : Try.prog.cellsOf 4 = 1 := by kernel_rfl
  have hs_u64 : Try.prog.cellsOf 55 = 1 := by kernel_rfl
  obtain ⟨_, hlen, hat⟩ := World.cells?_some hc
  obtain ⟨y0, y1, y2, n', _, _, t0, t1, t2⟩ := Go.Deep.trod_struct3 Try.underlying57 h
  match cs, hlen with
  | [u0, u1, u2], _ =>
    have g0 := hat 0 (by omega)
    have g1 := hat 1 (by omega)
    have g2 := hat 2 (by omega)
    simp only [hs_bool, hs_u64, List.drop, List.take] at t0 t1 t2
    obtain ⟨K0, eK0, _⟩ := DataW.trod_bool Try.underlying4 t0
    obtain ⟨K1, eK1, _, w1⟩ := DataW.trod_int Try.underlying55 t1
    obtain ⟨K2, eK2, _, w2⟩ := DataW.trod_int Try.underlying55 t2
    simp at eK0 eK1 eK2
    subst eK0; subst eK1; subst eK2
    have b1 := u64_wf w1
    have b2 := u64_wf w2
    obtain ⟨N1, rfl⟩ := Int.eq_ofNat_of_zero_le b1.1
    obtain ⟨N2, rfl⟩ := Int.eq_ofNat_of_zero_le b2.1
    obtain ⟨h1, h2⟩ := spot_of g0
    obtain ⟨b, off, spot⟩ := a
    simp only at h1 h2
    subst h1
    rw [addr_add] at g0 g1 g2
    exact ⟨rfl, h2, ⟨K0, N1, N2⟩, ⟨g0, g1, g2⟩, by unfold WI.fit; simp only; omega⟩

theorem open_wides {fuel : Nat} {cs : List Value} {x : DataW H × List MemPlace} (h : DataW.trod enc Try.prog W 0 (fun _ => true) true fuel 23 cs = some x) :
    ∃ (p : Option Addr) (c : Nat) (l : List WI), cs = [.slice p l.length c] ∧ l.length ≤ c ∧ XP W W.heap.size p l ∧ ∀ y ∈ l, y.fit := by
  obtain ⟨p, c, l, h1, h2, h3⟩ := open_row Try.underlying23 (by kernel_rfl) IntFit (fun a n cs D hc h => open_wide a n cs D hc h) h
  refine ⟨p, c, l, h1, h2, RowP.imp h3 (Nat.le_refl _) (fun _ _ _ _ h => h.1), fun y hy => ?_⟩
  rcases h3 with rfl | ⟨b, off, _, _, hc⟩
  · cases hy
  · obtain ⟨i, hi⟩ := List.getElem?_of_mem hy
    exact (hc i y hi).2

end
end Go.Proofs.Ytkgkcnmnfhehfaa

namespace Go.Proofs.Ytkgkcnmnfhehfaa
open Go.ChangeShapes Go.WideShapes Go.ChangeAt Go.RowKit Go.Proofs.Heap Go.Proofs.Sch Go.Proofs.Wide

section
variable {H : Type} {enc : TypeId × Value → H} {W : World}

theorem nil_cap {t e : TypeId} (ht : Try.prog.underlying t = some (.slice e)) {fuel : Nat} {p : Option Addr} {n c : Nat} {x : DataW H × List MemPlace} (h : DataW.trod enc Try.prog W 0 (fun _ => true) true fuel t [.slice p n c] = some x) : p = none → c = 0 := by
  intro hp
  subst hp
  rcases Go.Deep.open_slice ht h with ⟨hcs, _⟩ | ⟨a, len, cap, m, n, D, Pl, hcs, _⟩
  · simp at hcs; exact hcs.2
  · simp at hcs
set_option maxRecDepth 100000 in
/-- A field that a law is handed. -/
theorem open_field_of {v : Value} {r : Reach} {b : Nat} (hv : Value.okWide Try.prog W r b 41 v) {fuel : Nat} {x : DataW H × List MemPlace} (h : DataW.trod enc Try.prog W 0 (fun _ => true) true fuel 41 v.cells.toList = some x) :
    ∃ f : Fld, v = .agg #[.string f.name, .int .i64 f.kind, .int .i64 f.count] := by
  have hs_int : Try.prog.cellsOf 3 = 1 := by kernel_rfl
  have hs_string : Try.prog.cellsOf 9 = 1 := by kernel_rfl
  have hs_kind : Try.prog.cellsOf 39 = 1 := by kernel_rfl
  have hs : Try.prog.cellsOf 41 = 3 := by kernel_rfl
  unfold Value.okWide at hv
  rw [Try.underlying41] at hv
  obtain ⟨cs, rfl, hsz, _⟩ := hv
  rw [hs] at hsz
  obtain ⟨⟨u0, u1, u2, rfl⟩⟩ : Nonempty (∃ u0 u1 u2, cs = #[u0, u1, u2]) := by
    obtain ⟨l⟩ := cs
    match l, hsz with
    | [u0, u1, u2], _ => exact ⟨u0, u1, u2, rfl⟩
  obtain ⟨y0, y1, y2, n', _, _, t0, t1, t2⟩ := Go.Deep.trod_struct3 Try.underlying41 h
  simp only [Value.cells, hs_int, hs_string, hs_kind, List.drop, List.take] at t0 t1 t2
  obtain ⟨K0, eK0, _, _⟩ := DataW.trod_string Try.underlying9 t0
  obtain ⟨K1, eK1, _, _⟩ := DataW.trod_int Try.underlying39 t1
  obtain ⟨K2, eK2, _, _⟩ := DataW.trod_int Try.underlying3 t2
  simp at eK0 eK1 eK2
  subst eK0; subst eK1; subst eK2
  exact ⟨⟨K0, K1, K2⟩, rfl⟩
set_option maxRecDepth 100000 in
/-- A great number that a law is handed. -/
theorem open_wide_of {v : Value} {r : Reach} {b : Nat} (hv : Value.okWide Try.prog W r b 57 v) {fuel : Nat} {x : DataW H × List MemPlace} (h : DataW.trod enc Try.prog W 0 (fun _ => true) true fuel 57 v.cells.toList = some x) :
    ∃ y : WI, v = .agg #[.bool y.neg, .int .u64 (y.hi : Int), .int .u64 (y.lo : Int)] ∧ y.fit := by
  have hs_bool : Try.prog.cellsOf 4 = 1 := by kernel_rfl
  have hs_u64 : Try.prog.cellsOf 55 = 1 := by kernel_rfl
  have hs : Try.prog.cellsOf 57 = 3 := by kernel_rfl
  unfold Value.okWide at hv
  rw [Try.underlying57] at hv
  obtain ⟨cs, rfl, hsz, _⟩ := hv
  rw [hs] at hsz
  obtain ⟨⟨u0, u1, u2, rfl⟩⟩ : Nonempty (∃ u0 u1 u2, cs = #[u0, u1, u2]) := by
    obtain ⟨l⟩ := cs
    match l, hsz with
    | [u0, u1, u2], _ => exact ⟨u0, u1, u2, rfl⟩
  obtain ⟨y0, y1, y2, n', _, _, t0, t1, t2⟩ := Go.Deep.trod_struct3 Try.underlying57 h
  simp only [Value.cells, hs_bool, hs_u64, List.drop, List.take] at t0 t1 t2
  obtain ⟨K0, eK0, _⟩ := DataW.trod_bool Try.underlying4 t0
  obtain ⟨K1, eK1, _, w1⟩ := DataW.trod_int Try.underlying55 t1
  obtain ⟨K2, eK2, _, w2⟩ := DataW.trod_int Try.underlying55 t2
  simp at eK0 eK1 eK2
  subst eK0; subst eK1; subst eK2
  have b1 := u64_wf w1
  have b2 := u64_wf w2
  obtain ⟨N1, rfl⟩ := Int.eq_ofNat_of_zero_le b1.1
  obtain ⟨N2, rfl⟩ := Int.eq_ofNat_of_zero_le b2.1
  exact ⟨⟨K0, N1, N2⟩, rfl, by unfold WI.fit; simp only; omega⟩
end
end Go.Proofs.Ytkgkcnmnfhehfaa
