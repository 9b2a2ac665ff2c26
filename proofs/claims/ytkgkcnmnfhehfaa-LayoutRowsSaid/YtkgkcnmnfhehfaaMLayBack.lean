/- What is proved: the law that what was packed is unpacked as it was answers true (its walk). -/
import Derived.Test.YtkgkcnmnfhehfaaMRf5un
import Derived.Test.YtkgkcnmnfhehfaaMRef05b
import Derived.Test.YtkgkcnmnfhehfaaMHeap
import Derived.Test.YtkgkcnmnfhehfaaProg
import Derived.Deep.Slices
import Derived.Deep.Strs
import Derived.ProofKit
import Derived.OpenShut
import Derived.ShutString
import Derived.ChangeOld
import Derived.Below
import Derived.Test.YtkgkcnmnfhehfaaMMapStr
namespace Go.Proofs.Ytkgkcnmnfhehfaa
open Go.RowKit Go.Proofs.Heap Go.Proofs.Sch Go.Proofs.Wide

theorem eqV_self (a : List WI) : eqV a a = true := eqV_yes rfl
theorem unV_fit (fs : List Fld) (s : ByteArray) : ∀ x ∈ unV fs s, x.fit := by
  intro x hx
  unfold unV at hx
  split at hx
  · unfold unRow at hx
    have key : ∀ m, m ≤ fs.length → ∀ x ∈ (unRun s (fs.take m)).2, x.fit := by
      intro m
      induction m with
      | zero => intro _ x hx; rw [List.take_zero] at hx; cases hx
      | succ m ih =>
        intro hm x hx
        obtain ⟨f, hf⟩ : ∃ f, fs[m]? = some f := ⟨fs[m], by simp [show m < fs.length by omega]⟩
        rw [unRun_next hf] at hx
        rcases List.mem_append.1 hx with h | h
        · exact ih (by omega) x h
        · obtain ⟨i, _, rfl⟩ := List.mem_map.1 h
          exact getV_fit _ _
    have := key fs.length (Nat.le_refl _)
    rw [List.take_length] at this
    exact this x hx
  · cases hx
theorem unV_len (fs : List Fld) (s : ByteArray) (h : unE fs s = 0) : (unV fs s).length ≤ 64 := by
  obtain ⟨h0, h1, _⟩ := fitC_zero (back_bytes h).1
  have h2 := layC_zero h0
  have h3 := sumN_le fs h2.2
  omega
set_option maxRecDepth 20000 in
set_option maxHeartbeats 16000000 in
theorem layoutBack_walk (fs : List Fld) (p : Option Addr) (cap : Nat) (aa : List WI) (qa : Option Addr) (ca : Nat) (bs : List WI) (qb : Option Addr) (cb : Nat) (s : ByteArray) (w : World) (hcap : fs.length ≤ cap) (hf : FP w w.heap.size p fs)
    (hca : aa.length ≤ ca) (ha : XP w w.heap.size qa aa) (hfa : ∀ x ∈ aa, x.fit) (hcb : bs.length ≤ cb) (hb : XP w w.heap.size qb bs) (hfb : ∀ x ∈ bs, x.fit) :
    Calls Try.prog 4 #[.slice p fs.length cap, .slice qa aa.length ca, .slice qb bs.length cb, .string s] w fun r w' => r = .returned (.bool true) ∧ Below w.heap.size w w' := by
  have HF := hid hf; have HCP := hid hcap; have HA := hid ha; have HFA := hid hfa; have HB := hid hb; have HFB := hid hfb; have HCA := hid hca; have HCB := hid hcb
  clear hf hcap ha hfa hb hfb hca hcb
  have HFP : Hid (∀ wy, Keep (fun _ => False) w wy → FP wy wy.heap.size p fs) := hid (fun wy hk => FP.mono (FP.low HF.out (Low.keep0 hk)) hk.size)
  have HAP : Hid (∀ wy, Keep (fun _ => False) w wy → XP wy wy.heap.size qa aa) := hid (fun wy hk => XP.mono (XP.low HA.out (Low.keep0 hk)) hk.size)
  have HBP : Hid (∀ wy, Keep (fun _ => False) w wy → XP wy wy.heap.size qb bs) := hid (fun wy hk => XP.mono (XP.low HB.out (Low.keep0 hk)) hk.size)
  go_enter Try.func4, Try.ntmps4
  go_wp2_with fail
  refine (awake_true _).mono ?_
  rintro r w1 ⟨rfl, hk1⟩
  have HK1 := hid hk1
  clear hk1
  go_wp2_with fail
  refine (gr_of _ _ _ _ _ _ _).mono ?_
  rintro r w_ ⟨rfl, rfl⟩
  cases hg1 : (decide (12 < fs.length) || decide (100 < aa.length))
  rotate_left
  · go_wp2
    go_ret
    exact ⟨rfl, HK1.out.below⟩
  go_wp2_with fail
  refine (gr_of _ _ _ _ _ _ _).mono ?_
  rintro r w_ ⟨rfl, rfl⟩
  cases hg2 : (decide (12 < fs.length) || decide (100 < bs.length))
  rotate_left
  · go_wp2
    go_ret
    exact ⟨rfl, HK1.out.below⟩
  by_cases h300 : 300 < s.size
  · have g1 : decide ((300 : Int) < (s.size : Int)) = true := decide_eq_true (by omega)
    go_wp2
    go_ret
    exact ⟨rfl, HK1.out.below⟩
  have g1 : decide ((300 : Int) < (s.size : Int)) = false := decide_eq_false (by omega)
  rw [Bool.or_eq_false_iff] at hg1 hg2
  have hla : aa.length ≤ 100 := by have := of_decide_eq_false hg1.2; omega
  have hlb : bs.length ≤ 100 := by have := of_decide_eq_false hg2.2; omega
  clear hg1 hg2
  have HS : Hid (s.size ≤ 300) := hid (by omega)
  have HPA := hid (fun wy (h : Keep (fun _ => False) w wy) => lay_pack fs p cap aa qa ca wy HCP.out HCA.out (by omega) HFA.out (HFP.out wy h) (HAP.out wy h))
  have HPB := hid (fun wy (h : Keep (fun _ => False) w wy) => lay_pack fs p cap bs qb cb wy HCP.out HCB.out (by omega) HFB.out (HFP.out wy h) (HBP.out wy h))
  have HTA := hid (fun wy (h : Keep (fun _ => False) w wy) => lay_fit fs p cap aa qa ca wy HCP.out HCA.out (by omega) HFA.out (HFP.out wy h) (HAP.out wy h))
  clear h300
  go_wp2_with fail
  refine (lay_unpack fs p cap s _ HCP.out (by have := HS.out; omega) (HFP.out _ HK1.out)).mono ?_
  rintro r w2 ⟨va, vc, rfl, hown, hk2⟩
  have HK2 := hid (HK1.out.trans hk2); have HO := hid hown
  clear hk2 hown
  have HE : Hid (unE fs s = 0 → fitC fs (unV fs s) = 0 ∧ packS fs (unV fs s) = s ∧ (unV fs s).length ≤ 64) := hid (fun h => ⟨(back_bytes h).1, (back_bytes h).2, unV_len fs s h⟩)
  have HUF := hid (unV_fit fs s)
  obtain ⟨z, hz⟩ : ∃ z, unE fs s = z := ⟨_, rfl⟩
  rw [hz] at HE ⊢
  clear hz
  generalize unV fs s = uv at *
  go_upto_if 41 with fail
  go_cut [11, 12] from 41 to 54 (fun _ _ wx => Keep (fun _ => False) w wx)
  case first =>
    by_cases h0 : z = 0
    · subst h0
      obtain ⟨e1, e2, e3⟩ := HE.out rfl
      have hc := lay_pack fs p cap uv va vc w2 HCP.out (owns_cap HO.out) (by omega) HUF.out (HFP.out _ HK2.out) (xp_own rfl HO.out)
      rw [e1, e2] at hc
      clear e1 e2 e3
      go_wp2_with fail
      refine hc.mono ?_
      clear hc
      rintro r w3 ⟨rfl, hk3⟩
      have HK3 := hid (HK2.out.trans hk3)
      clear hk3
      have g2 : (!s.toList == s.toList) = false := by simp
      go_wp2
      go_meet
      case rel => exact HK3.out
    · have g2 : ((z : Int) == 0) = false := beq_eq_false_iff_ne.2 (by omega)
      have g3 : (z == 0) = false := beq_eq_false_iff_ne.2 h0
      clear h0
      go_wp2
      go_meet
      case rel => exact HK2.out
  case rest =>
  have HKC := hid hcut
  clear hcut HE HUF HO g1
  go_wp2_with fail
  refine (HPA.out _ HKC.out).mono ?_
  rintro r w4 ⟨rfl, hk4⟩
  have HK4 := hid (HKC.out.trans hk4)
  clear hk4
  by_cases hf0 : fitC fs aa = 0
  rotate_left
  · obtain ⟨y, hy⟩ : ∃ y, fitC fs aa = y := ⟨_, rfl⟩
    rw [hy] at hf0 HTA ⊢
    have g2 : ((y : Int) != 0) = true := by rw [bne, beq_eq_false_iff_ne.2 (show (y : Int) ≠ 0 by omega)]; rfl
    have g3 : (y != 0) = true := by rw [bne, beq_eq_false_iff_ne.2 hf0]; rfl
    clear hf0 hy
    go_wp2_with fail
    refine (HTA.out _ HK4.out).mono ?_
    rintro r w5 ⟨rfl, hk5⟩
    have HK5 := hid (HK4.out.trans hk5)
    clear hk5
    go_wp2
    go_ret
    exact ⟨rfl, HK5.out.below⟩
  have hby := back_yes hf0
  have HINJ : Hid (fitC fs bs = 0 → packS fs aa = packS fs bs → aa = bs) := hid (fun h1 h2 => pack_inj hf0 h1 h2)
  have hsz : (packS fs aa).size ≤ 9223372036854775807 := by
    rw [packS_ok hf0]
    show (packL fs aa).toArray.size ≤ _
    rw [List.size_toArray, packL_len hf0]
    have h0 := (fitC_zero hf0).1
    unfold layC at h0
    by_cases c1 : 8 < fs.length
    · rw [if_pos c1] at h0; omega
    · rw [if_neg c1] at h0
      by_cases c2 : ∀ f ∈ fs, okF f
      · rw [if_pos c2] at h0
        by_cases c3 : 256 < pSize fs
        · rw [if_pos c3] at h0; omega
        · omega
      · rw [if_neg c2] at h0; omega
  rw [hf0]
  have HUN : Hid (∀ wy, Keep (fun _ => False) w wy → Calls Try.prog 14 #[.slice p fs.length cap, .string (packS fs aa)] wy fun r w' => ∃ a c, r = .returned (.tuple #[.slice a aa.length c, iV 0]) ∧ w'.ownsRow wy.heap.size 57 3 (.slice a aa.length c) aa.length (aa.flatMap wcl) ∧ Keep (fun _ => False) wy w') := hid (fun wy h => by
    have hc := lay_unpack fs p cap (packS fs aa) wy HCP.out hsz (HFP.out wy h)
    rwa [hby.1, hby.2] at hc)
  have HPE : Hid (aa = bs → packS fs aa = packS fs bs) := hid (fun h => by rw [h])
  clear hf0 hby hsz
  generalize packS fs aa = xa at *
  go_wp2_with fail
  refine (HUN.out _ HK4.out).mono ?_
  rintro r w5 ⟨ua, uc, rfl, hown, hk5⟩
  have HK5 := hid (HK4.out.trans hk5); have HO := hid hown
  clear hk5 hown
  go_wp2_with fail
  refine (HPB.out _ HK5.out).mono ?_
  rintro r w6 ⟨rfl, hk6⟩
  have HK6 := hid (HK5.out.trans hk6); have HO6 := hid (owns_keep HO.out (fun i hi => hk6.block i (HO.out.lt i hi).2 id))
  clear hk6
  go_wp2_with fail
  refine (vals_of aa aa ua qa uc ca _ (by omega) (xp_own rfl HO6.out) (HAP.out _ HK6.out)).mono ?_
  rintro r w7 ⟨rfl, hk7⟩
  rw [eqV_self]
  have HK7 := hid (HK6.out.trans hk7)
  clear hk7
  by_cases hb0 : fitC fs bs = 0
  rotate_left
  · obtain ⟨y, hy⟩ : ∃ y, fitC fs bs = y := ⟨_, rfl⟩
    rw [hy] at hb0 ⊢
    have g2 : ((y : Int) != 0) = true := by rw [bne, beq_eq_false_iff_ne.2 (show (y : Int) ≠ 0 by omega)]; rfl
    have g3 : (y != 0) = true := by rw [bne, beq_eq_false_iff_ne.2 hb0]; rfl
    clear hb0 hy
    go_wp2
    go_ret
    exact ⟨rfl, HK7.out.below⟩
  have HI := hid (HINJ.out hb0)
  rw [hb0]
  clear hb0 HINJ
  generalize packS fs bs = xb at *
  have hvl := vals_of aa bs qa qb ca cb w7 (by omega) (HAP.out _ HK7.out) (HBP.out _ HK7.out)
  by_cases hab : aa = bs
  · have g2 : (xa.toList == xb.toList) = true := by rw [HPE.out hab]; simp
    rw [eqV_yes hab] at hvl
    clear hab
    go_wp2_with fail
    refine hvl.mono ?_
    rintro r w8 ⟨rfl, hk8⟩
    have HK8 := hid (HK7.out.trans hk8)
    clear hk8 hvl
    go_wp2
    go_ret
    exact ⟨rfl, HK8.out.below⟩
  · have g2 : (xa.toList == xb.toList) = false := beq_eq_false_iff_ne.2 (fun h => hab (HI.out (toList_inj h)))
    rw [eqV_no hab] at hvl
    clear hab
    go_wp2_with fail
    refine hvl.mono ?_
    rintro r w8 ⟨rfl, hk8⟩
    have HK8 := hid (HK7.out.trans hk8)
    clear hk8 hvl
    go_wp2
    go_ret
    exact ⟨rfl, HK8.out.below⟩
end Go.Proofs.Ytkgkcnmnfhehfaa

namespace Go.Proofs.Ytkgkcnmnfhehfaa
open Go.RowKit Go.Proofs.Heap Go.Proofs.Sch Go.Proofs.Wide

set_option maxRecDepth 20000 in
set_option maxHeartbeats 16000000 in
theorem layoutRows_walk (fs : List Fld) (p : Option Addr) (cap : Nat) (vs : List WI) (q : Option Addr) (qc : Nat) (s : ByteArray) (w : World) (hcap : fs.length ≤ cap) (hf : FP w w.heap.size p fs)
    (hqc : vs.length ≤ qc) (hv : XP w w.heap.size q vs) (hfit : ∀ x ∈ vs, x.fit) :
    Calls Try.prog 3 #[.slice p fs.length cap, .slice q vs.length qc, .string s] w fun r w' => r = .returned (.bool true) ∧ Below w.heap.size w w' := by
  have HF := hid hf; have HCP := hid hcap; have HV := hid hv; have HX := hid hfit; have HQC := hid hqc
  clear hf hcap hv hfit hqc
  have HFP : Hid (∀ wy, Keep (fun _ => False) w wy → FP wy wy.heap.size p fs) := hid (fun wy hk => FP.mono (FP.low HF.out (Low.keep0 hk)) hk.size)
  have HVP : Hid (∀ wy, Keep (fun _ => False) w wy → XP wy wy.heap.size q vs) := hid (fun wy hk => XP.mono (XP.low HV.out (Low.keep0 hk)) hk.size)
  go_enter Try.func3, Try.ntmps3
  go_wp2_with fail
  refine (awake_true _).mono ?_
  rintro r w1 ⟨rfl, hk1⟩
  have HK1 := hid hk1
  clear hk1
  go_wp2_with fail
  refine (gr_of _ _ _ _ _ _ _).mono ?_
  rintro r w_ ⟨rfl, rfl⟩
  cases hg1 : (decide (12 < fs.length) || decide (100 < vs.length))
  rotate_left
  · go_wp2
    go_ret
    exact ⟨rfl, HK1.out.below⟩
  by_cases h300 : 300 < s.size
  · have g1 : decide ((300 : Int) < (s.size : Int)) = true := decide_eq_true (by omega)
    go_wp2
    go_ret
    exact ⟨rfl, HK1.out.below⟩
  have g1 : decide ((300 : Int) < (s.size : Int)) = false := decide_eq_false (by omega)
  rw [Bool.or_eq_false_iff] at hg1
  have hlv : vs.length ≤ 100 := by have := of_decide_eq_false hg1.2; omega
  have hlf : fs.length ≤ 12 := by have := of_decide_eq_false hg1.1; omega
  clear hg1
  have HS : Hid (s.size ≤ 300) := hid (by omega)
  have HPA := hid (fun wy (h : Keep (fun _ => False) w wy) => lay_pack fs p cap vs q qc wy HCP.out HQC.out (by omega) HX.out (HFP.out wy h) (HVP.out wy h))
  have HTA := hid (fun wy (h : Keep (fun _ => False) w wy) => lay_fit fs p cap vs q qc wy HCP.out HQC.out (by omega) HX.out (HFP.out wy h) (HVP.out wy h))
  clear h300
  go_wp2_with fail
  refine (r_fit fs p cap vs q qc _ HX.out (HFP.out _ HK1.out) (HVP.out _ HK1.out)).mono ?_
  rintro r w2 ⟨rfl, hk2⟩
  have HK2 := hid (HK1.out.trans hk2)
  clear hk2 g1
  go_wp2_with fail
  refine (HPA.out _ HK2.out).mono ?_
  rintro r w3 ⟨rfl, hk3⟩
  have HK3 := hid (HK2.out.trans hk3)
  clear hk3
  go_wp2_with fail
  refine (HTA.out _ HK3.out).mono ?_
  rintro r w4 ⟨rfl, hk4⟩
  have HK4 := hid (HK3.out.trans hk4)
  clear hk4
  have HPS : Hid (fitC fs vs ≠ 0 → packS fs vs = ⟨#[]⟩) := hid (fun h => by unfold packS; rw [if_neg h])
  have HRP : Hid (fitC fs vs = 0 → ∀ wy, Keep (fun _ => False) w wy → Calls Try.prog 13 #[.slice p fs.length cap, .slice q vs.length qc] wy fun r w' => r = .returned (.string (packS fs vs)) ∧ Keep (fun _ => False) wy w') := hid (fun h wy hk => by
    have h2 := r_pack fs p cap vs q qc wy (fitC_zero h).1 (fitC_zero h).2.1 HX.out (HFP.out wy hk) (HVP.out wy hk)
    rwa [← packS_ok h] at h2)
  obtain ⟨z, hz⟩ : ∃ z, fitC fs vs = z := ⟨_, rfl⟩
  rw [hz] at HPS HRP ⊢
  clear hz
  generalize packS fs vs = ps at *
  have e1 : ((z : Int) != (z : Int)) = false := by simp
  have e2 : (z != z) = false := by simp
  go_upto_region 9 with fail
  clear e1 e2
  go_cut [59] from 14 to 59 (fun v wx => v = .bool false ∧ Keep (fun _ => False) w wx)
  case first =>
    by_cases h0 : z = 0
    · subst h0
      have hrp := HRP.out rfl
      have e3 : (!ps.toList == ps.toList) = false := by simp
      go_wp2_with fail
      refine (hrp _ HK4.out).mono ?_
      clear hrp
      rintro r w5 ⟨rfl, hk5⟩
      have HK5 := hid (HK4.out.trans hk5)
      clear hk5
      go_wp2
      go_meet
      case rel => exact ⟨rfl, HK5.out⟩
    · have e1 : ((z : Int) == 0) = false := beq_eq_false_iff_ne.2 (by omega)
      have e2 : ((z : Int) != 0) = true := by rw [bne, e1]; rfl
      have e3 : (z == 0) = false := beq_eq_false_iff_ne.2 h0
      have e4 : (z != 0) = true := by rw [bne, e3]; rfl
      obtain rfl := HPS.out h0
      have e5 : (!(⟨#[]⟩ : ByteArray).toList == (⟨#[]⟩ : ByteArray).toList) = false := by simp
      go_wp2
      go_meet
      case rel => exact ⟨rfl, HK4.out⟩
  case rest =>
  obtain ⟨rfl, hkc⟩ := hcut
  have HKC := hid hkc
  clear hkc HPS HRP
  have HL := hid (fun h => unV_len fs s h)
  have HL0 : Hid (unE fs s ≠ 0 → unV fs s = []) := hid (fun h => by unfold unV; rw [if_neg h])
  go_wp2_with fail
  refine (lay_unpack fs p cap s _ HCP.out (by have := HS.out; omega) (HFP.out _ HKC.out)).mono ?_
  rintro r w6 ⟨va, vc, rfl, hown6, hk6⟩
  have HK6 := hid (HKC.out.trans hk6); have HO6 := hid hown6
  clear hk6 hown6
  go_wp2_with fail
  refine (r_unpack fs p cap s _ (HFP.out _ HK6.out)).mono ?_
  rintro r w7 ⟨xa, xc, rfl, hown7, hk7⟩
  have HK7 := hid (HK6.out.trans hk7); have HO7 := hid hown7
  have HO6' := hid (owns_keep HO6.out (fun i hi => hk7.block i (HO6.out.lt i hi).2 id))
  clear hk7 hown7
  have hvl : (unV fs s).length ≤ 64 := by
    by_cases h : unE fs s = 0
    · exact HL.out h
    · rw [HL0.out h]; simp
  generalize unE fs s = u at *
  generalize unV fs s = uv at *
  have e1 : ((u : Int) == (u : Int)) = true := by simp
  have e2 : (u == u) = true := by simp
  go_wp2_with fail
  refine (vals_of uv uv va xa vc xc _ (by omega) (xp_own rfl HO6'.out) (xp_own rfl HO7.out)).mono ?_
  rintro r w8 ⟨rfl, hk8⟩
  rw [eqV_self]
  have HK8 := hid (HK7.out.trans hk8)
  clear hk8
  go_wp2
  go_ret
  exact ⟨rfl, HK8.out.below⟩
end Go.Proofs.Ytkgkcnmnfhehfaa

namespace Go.Proofs.Ytkgkcnmnfhehfaa
open Go.ChangeShapes Go.WideShapes Go.ChangeAt Go.RowKit Go.Proofs.Heap Go.Proofs.Sch

section
variable {H : Type} {enc : TypeId × Value → H} {W : World}

theorem addr_add (b off i : Nat) : (⟨b, off, none⟩ : Addr).add i = ⟨b, off + i, none⟩ := by unfold Addr.add; split <;> simp_all

/-- A row of things that a law is handed. -/
theorem open_row {α : Type} {z : Nat} {t e : TypeId} (ht : Try.prog.underlying t = some (.slice e)) (hsz : Try.prog.cellsOf e = z) (at_ : World → Nat → Nat → α → Prop)
    (hel : ∀ (a : Addr) (n : Nat) (cs : List Value) (D : DataW H × List MemPlace), W.cells? 0 a z = some cs → DataW.trod enc Try.prog W 0 (fun _ => true) true n e cs = some D → a.spot = none ∧ a.block < W.heap.size ∧ ∃ x : α, at_ W a.block a.off x)
    {fuel : Nat} {cs : List Value} {x : DataW H × List MemPlace} (h : DataW.trod enc Try.prog W 0 (fun _ => true) true fuel t cs = some x) :
    ∃ (p : Option Addr) (c : Nat) (l : List α), cs = [.slice p l.length c] ∧ l.length ≤ c ∧ RowP z at_ W W.heap.size p l := by
  rcases Go.Deep.open_slice ht h with ⟨hcs, _⟩ | ⟨a, len, cap, m, n, D, Pl, hcs, _, hl, hm, hz', _, hcell⟩
  · exact ⟨none, 0, [], hcs, Nat.le_refl _, .inl rfl⟩
  · have hmc : m = cap := by simpa using hz'
    subst hmc
    rw [hsz] at hcell
    by_cases hl0 : len = 0
    · subst hl0
      exact ⟨some a, m, [], hcs, Nat.zero_le _, .inl rfl⟩
    · obtain ⟨b, off, spot⟩ := a
      have hblk : spot = none ∧ b < W.heap.size := by
        obtain ⟨cs', hc1, hc2⟩ := hcell 0 (by omega)
        obtain ⟨h1, h2, _⟩ := hel _ _ _ _ hc1 hc2
        refine ⟨?_, by simpa [Addr.add] using h2⟩
        simpa [Addr.add] using h1
      obtain ⟨rfl, hb⟩ := hblk
      have key : ∀ k, k ≤ len → ∃ l : List α, l.length = k ∧ ∀ i y, l[i]? = some y → at_ W b (off + i * z) y := by
        intro k
        induction k with
        | zero => exact fun _ => ⟨[], rfl, fun i y hy => by simp at hy⟩
        | succ k ih =>
          intro hk
          obtain ⟨l, hll, hla⟩ := ih (by omega)
          obtain ⟨cs', hc1, hc2⟩ := hcell k (by omega)
          obtain ⟨_, _, y, hy⟩ := hel _ _ _ _ hc1 hc2
          rw [addr_add] at hy
          refine ⟨l ++ [y], by simp [hll], fun i u hu => ?_⟩
          by_cases hik : i < k
          · rw [List.getElem?_append_left (by omega)] at hu
            exact hla i u hu
          · rw [List.getElem?_append_right (by omega)] at hu
            have : i = k := by
              have := (List.getElem?_eq_some_iff.1 hu).1
              simp at this
              omega
            subst this
            simp [hll] at hu
            subst hu
            exact hy
      obtain ⟨l, hll, hla⟩ := key len (Nat.le_refl _)
      subst hll
      exact ⟨_, m, l, hcs, hl, .inr ⟨b, off, rfl, hb, hla⟩⟩

theorem spot_of {a : Addr} {v : Value} (h : W.cell? (a.add 0) = some v) : a.spot = none ∧ a.block < W.heap.size := by
  obtain ⟨b, off, spot⟩ := a
  have h1 : spot = none := by simpa [Addr.add] using World.cell?_spot h
  subst h1
  rw [addr_add] at h
  exact ⟨rfl, World.block_lt_of_cell? W _ h⟩

set_option maxRecDepth 100000 in
theorem open_field (a : Addr) (n : Nat) (cs : List Value) (D : DataW H × List MemPlace) (hc : W.cells? 0 a 3 = some cs) (h : DataW.trod enc Try.prog W 0 (fun _ => true) true n 41 cs = some D) :
    a.spot = none ∧ a.block < W.heap.size ∧ ∃ x : Fld, FldAt W a.block a.off x := by
  have hs_int : Try.prog.cellsOf 3 = 1 := by kernel_rfl
  have hs_string : Try.prog.cellsOf 9 = 1 := by kernel_rfl
  have hs_kind : Try.prog.cellsOf 39 = 1 := by kernel_rfl
  obtain ⟨_, hlen, hat⟩ := World.cells?_some hc
  obtain ⟨y0, y1, y2, n', _, _, t0, t1, t2⟩ := Go.Deep.trod_struct3 Try.underlying41 h
  match cs, hlen with
  | [u0, u1, u2], _ =>
    have g0 := hat 0 (by omega)
    have g1 := hat 1 (by omega)
    have g2 := hat 2 (by omega)
    simp only [hs_int, hs_string, hs_kind, List.drop, List.take] at t0 t1 t2
    obtain ⟨K0, eK0, _, _⟩ := DataW.trod_string Try.underlying9 t0
    obtain ⟨K1, eK1, _, _⟩ := DataW.trod_int Try.underlying39 t1
    obtain ⟨K2, eK2, _, _⟩ := DataW.trod_int Try.underlying3 t2
    simp at eK0 eK1 eK2
    subst eK0; subst eK1; subst eK2
    obtain ⟨h1, h2⟩ := spot_of g0
    obtain ⟨b, off, spot⟩ := a
    simp only at h1 h2
    subst h1
    rw [addr_add] at g0 g1 g2
    exact ⟨rfl, h2, ⟨K0, K1, K2⟩, g0, g1, g2⟩

set_option maxRecDepth 100000 in
theorem open_fields {fuel : Nat} {cs : List Value} {x : DataW H × List MemPlace} (h : DataW.trod enc Try.prog W 0 (fun _ => true) true fuel 22 cs = some x) :
    ∃ (p : Option Addr) (c : Nat) (l : List Fld), cs = [.slice p l.length c] ∧ l.length ≤ c ∧ FP W W.heap.size p l :=
  open_row Try.underlying22 (by kernel_rfl) FldAt (fun a n cs D hc h => open_field a n cs D hc h) h

end
end Go.Proofs.Ytkgkcnmnfhehfaa

namespace Go.Proofs.Ytkgkcnmnfhehfaa
open Go.ChangeShapes Go.WideShapes Go.ChangeAt Go.RowKit Go.Proofs.Heap Go.Proofs.Sch Go.Proofs.Wide

section
variable {H : Type} {enc : TypeId × Value → H} {W : World}

theorem u64_wf {z : Int} (h : (Lit.int .u64 z).wf = true) : 0 ≤ z ∧ z < 18446744073709551616 := by
  have h : IntKind.u64.min ≤ z ∧ z ≤ IntKind.u64.max := by simpa [Lit.wf] using h
  have h1 : IntKind.u64.min = 0 := by decide
  have h2 : IntKind.u64.max = 18446744073709551615 := by decide
  omega

def IntFit (w : World) (b o : Nat) (x : WI) : Prop := IntAt w b o x ∧ x.fit

set_option maxRecDepth 100000 in
theorem open_wide (a : Addr) (n : Nat) (cs : List Value) (D : DataW H × List MemPlace) (hc : W.cells? 0 a 3 = some cs) (h : DataW.trod enc Try.prog W 0 (fun _ => true) true n 57 cs = some D) :
    a.spot = none ∧ a.block < W.heap.size ∧ ∃ x : WI, IntFit W a.block a.off x := by
  have hs_bool : Try.prog.cellsOf 4 = 1 := by kernel_rfl
  have hs_u64 : Try.prog.cellsOf 55 = 1 := by kernel_rfl
  obtain ⟨_, hlen, hat⟩ := World.cells?_some hc
  obtain ⟨y0, y1, y2, n', _, _, t0, t1, t2⟩ := Go.Deep.trod_struct3 Try.underlying57 h
  match cs, hlen with
  | [u0, u1, u2], _ =>
    have g0 := hat 0 (by omega)
    have g1 := hat 1 (by omega)
    have g2 := hat 2 (by omega)
    simp only [hs_bool, hs_u64, List.drop, List.take] at t0 t1 t2
    obtain ⟨K0, eK0, _⟩ := DataW.trod_bool Try.underlying4 t0
    obtain ⟨K1, eK1, _, w1⟩ := DataW.trod_int Try.underlying55 t1
    obtain ⟨K2, eK2, _, w2⟩ := DataW.trod_int Try.underlying55 t2
    simp at eK0 eK1 eK2
    subst eK0; subst eK1; subst eK2
    have b1 := u64_wf w1
    have b2 := u64_wf w2
    obtain ⟨N1, rfl⟩ := Int.eq_ofNat_of_zero_le b1.1
    obtain ⟨N2, rfl⟩ := Int.eq_ofNat_of_zero_le b2.1
    obtain ⟨h1, h2⟩ := spot_of g0
    obtain ⟨b, off, spot⟩ := a
    simp only at h1 h2
    subst h1
    rw [addr_add] at g0 g1 g2
    exact ⟨rfl, h2, ⟨K0, N1, N2⟩, ⟨g0, g1, g2⟩, by unfold WI.fit; simp only; omega⟩

theorem open_wides {fuel : Nat} {cs : List Value} {x : DataW H × List MemPlace} (h : DataW.trod enc Try.prog W 0 (fun _ => true) true fuel 23 cs = some x) :
    ∃ (p : Option Addr) (c : Nat) (l : List WI), cs = [.slice p l.length c] ∧ l.length ≤ c ∧ XP W W.heap.size p l ∧ ∀ y ∈ l, y.fit := by
  obtain ⟨p, c, l, h1, h2, h3⟩ := open_row Try.underlying23 (by kernel_rfl) IntFit (fun a n cs D hc h => open_wide a n cs D hc h) h
  refine ⟨p, c, l, h1, h2, RowP.imp h3 (Nat.le_refl _) (fun _ _ _ _ h => h.1), fun y hy => ?_⟩
  rcases h3 with rfl | ⟨b, off, _, _, hc⟩
  · cases hy
  · obtain ⟨i, hi⟩ := List.getElem?_of_mem hy
    exact (hc i y hi).2

end
end Go.Proofs.Ytkgkcnmnfhehfaa
