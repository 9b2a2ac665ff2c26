/- What is proved: the law that what was packed is unpacked as it was answers true (its walk). -/
import Derived.Test.YtkgkcnmnfhehfaaValues
import Derived.Test.YtkgkcnmnfhehfaaBackLaw
namespace Go.Proofs.Ytkgkcnmnfhehfaa
open Go.RowKit Go.Proofs.Heap Go.Proofs.Sch Go.Proofs.Wide

theorem eqV_self (a : List WI) : eqV a a = true := eqV_yes rfl
theorem unV_fit (fs : List Fld) (s : ByteArray) : ∀ x ∈ unV fs s, x.fit := by
  intro x hx
  unfold unV at hx
  split at hx
  · unfold unRow at hx
    have key : ∀ m, m ≤ fs.length → ∀ x ∈ (unRun s (fs.take m)).2, x.fit := by
      intro m
      induction m with
      | zero => intro _ x hx; rw [List.take_zero] at hx; cases hx
      | succ m ih =>
        intro hm x hx
        obtain ⟨f, hf⟩ : ∃ f, fs[m]? = some f := ⟨fs[m], by simp [show m < fs.length by omega]⟩
        rw [unRun_next hf] at hx
        rcases List.mem_append.1 hx with h | h
        · exact ih (by omega) x h
        · obtain ⟨i, _, rfl⟩ := List.mem_map.1 h
          exact getV_fit _ _
    have := key fs.length (Nat.le_refl _)
    rw [List.take_length] at this
    exact this x hx
  · cases hx
theorem unV_len (fs : List Fld) (s : ByteArray) (h : unE fs s = 0) : (unV fs s).length ≤ 64 := by
  obtain ⟨h0, h1, _⟩ := fitC_zero (back_bytes h).1
  have h2 := layC_zero h0
  have h3 := sumN_le fs h2.2
  omega
set_option maxRecDepth 20000 in
set_option maxHeartbeats 16000000 in
theorem layoutBack_walk (fs : List Fld) (p : Option Addr) (cap : Nat) (aa : List WI) (qa : Option Addr) (ca : Nat) (bs : List WI) (qb : Option Addr) (cb : Nat) (s : ByteArray) (w : World) (hcap : fs.length ≤ cap) (hf : FP w w.heap.size p fs)
    (hca : aa.length ≤ ca) (ha : XP w w.heap.size qa aa) (hfa : ∀ x ∈ aa, x.fit) (hcb : bs.length ≤ cb) (hb : XP w w.heap.size qb bs) (hfb : ∀ x ∈ bs, x.fit) :
    Calls Try.prog 4 #[.slice p fs.length cap, .slice qa aa.length ca, .slice qb bs.length cb, .string s] w fun r w' => r = .returned (.bool true) ∧ Below w.heap.size w w' := by
  have HF := hid hf; have HCP := hid hcap; have HA := hid ha; have HFA := hid hfa; have HB := hid hb; have HFB := hid hfb; have HCA := hid hca; have HCB := hid hcb
  clear hf hcap ha hfa hb hfb hca hcb
  have HFP : Hid (∀ wy, Keep (fun _ => False) w wy → FP wy wy.heap.size p fs) := hid (fun wy hk => FP.mono (FP.low HF.out (Low.keep0 hk)) hk.size)
  have HAP : Hid (∀ wy, Keep (fun _ => False) w wy → XP wy wy.heap.size qa aa) := hid (fun wy hk => XP.mono (XP.low HA.out (Low.keep0 hk)) hk.size)
  have HBP : Hid (∀ wy, Keep (fun _ => False) w wy → XP wy wy.heap.size qb bs) := hid (fun wy hk => XP.mono (XP.low HB.out (Low.keep0 hk)) hk.size)
  go_enter Try.func4, Try.ntmps4
  go_wp2_with fail
  refine (awake_true _).mono ?_
  rintro r w1 ⟨rfl, hk1⟩
  have HK1 := hid hk1
  clear hk1
  go_wp2_with fail
  refine (gr_of _ _ _ _ _ _ _).mono ?_
  rintro r w_ ⟨rfl, rfl⟩
  cases hg1 : (decide (12 < fs.length) || decide (100 < aa.length))
  rotate_left
  · go_wp2
    go_ret
    exact ⟨rfl, HK1.out.below⟩
  go_wp2_with fail
  refine (gr_of _ _ _ _ _ _ _).mono ?_
  rintro r w_ ⟨rfl, rfl⟩
  cases hg2 : (decide (12 < fs.length) || decide (100 < bs.length))
  rotate_left
  · go_wp2
    go_ret
    exact ⟨rfl, HK1.out.below⟩
  by_cases h300 : 300 < s.size
  · have g1 : decide ((300 : Int) < (s.size : Int)) = true := decide_eq_true (by omega)
    go_wp2
    go_ret
    exact ⟨rfl, HK1.out.below⟩
  have g1 : decide ((300 : Int) < (s.size : Int)) = false := decide_eq_false (by omega)
  rw [Bool.or_eq_false_iff] at hg1 hg2
  have hla : aa.length ≤ 100 := by have := of_decide_eq_false hg1.2; omega
  have hlb : bs.length ≤ 100 := by have := of_decide_eq_false hg2.2; omega
  clear hg1 hg2
  have HS : Hid (s.size ≤ 300) := hid (by omega)
  have HPA := hid (fun wy (h : Keep (fun _ => False) w wy) => lay_pack fs p cap aa qa ca wy HCP.out HCA.out (by omega) HFA.out (HFP.out wy h) (HAP.out wy h))
  have HPB := hid (fun wy (h : Keep (fun _ => False) w wy) => lay_pack fs p cap bs qb cb wy HCP.out HCB.out (by omega) HFB.out (HFP.out wy h) (HBP.out wy h))
  have HTA := hid (fun wy (h : Keep (fun _ => False) w wy) => lay_fit fs p cap aa qa ca wy HCP.out HCA.out (by omega) HFA.out (HFP.out wy h) (HAP.out wy h))
  clear h300
  go_wp2_with fail
  refine (lay_unpack fs p cap s _ HCP.out (by have := HS.out; omega) (HFP.out _ HK1.out)).mono ?_
  rintro r w2 ⟨va, vc, rfl, hown, hk2⟩
  have HK2 := hid (HK1.out.trans hk2); have HO := hid hown
  clear hk2 hown
  have HE : Hid (unE fs s = 0 → fitC fs (unV fs s) = 0 ∧ packS fs (unV fs s) = s ∧ (unV fs s).length ≤ 64) := hid (fun h => ⟨(back_bytes h).1, (back_bytes h).2, unV_len fs s h⟩)
  have HUF := hid (unV_fit fs s)
  obtain ⟨z, hz⟩ : ∃ z, unE fs s = z := ⟨_, rfl⟩
  rw [hz] at HE ⊢
  clear hz
  generalize unV fs s = uv at *
  go_upto_if 41 with fail
  go_cut [11, 12] from 41 to 54 (fun _ _ wx => Keep (fun _ => False) w wx)
  case first =>
    by_cases h0 : z = 0
    · subst h0
      obtain ⟨e1, e2, e3⟩ := HE.out rfl
      have hc := lay_pack fs p cap uv va vc w2 HCP.out (owns_cap HO.out) (by omega) HUF.out (HFP.out _ HK2.out) (xp_own rfl HO.out)
      rw [e1, e2] at hc
      clear e1 e2 e3
      go_wp2_with fail
      refine hc.mono ?_
      clear hc
      rintro r w3 ⟨rfl, hk3⟩
      have HK3 := hid (HK2.out.trans hk3)
      clear hk3
      have g2 : (!s.toList == s.toList) = false := by simp
      go_wp2
      go_meet
      case rel => exact HK3.out
    · have g2 : ((z : Int) == 0) = false := beq_eq_false_iff_ne.2 (by omega)
      have g3 : (z == 0) = false := beq_eq_false_iff_ne.2 h0
      clear h0
      go_wp2
      go_meet
      case rel => exact HK2.out
  case rest =>
  have HKC := hid hcut
  clear hcut HE HUF HO g1
  go_wp2_with fail
  refine (HPA.out _ HKC.out).mono ?_
  rintro r w4 ⟨rfl, hk4⟩
  have HK4 := hid (HKC.out.trans hk4)
  clear hk4
  by_cases hf0 : fitC fs aa = 0
  rotate_left
  · obtain ⟨y, hy⟩ : ∃ y, fitC fs aa = y := ⟨_, rfl⟩
    rw [hy] at hf0 HTA ⊢
    have g2 : ((y : Int) != 0) = true := by rw [bne, beq_eq_false_iff_ne.2 (show (y : Int) ≠ 0 by omega)]; rfl
    have g3 : (y != 0) = true := by rw [bne, beq_eq_false_iff_ne.2 hf0]; rfl
    clear hf0 hy
    go_wp2_with fail
    refine (HTA.out _ HK4.out).mono ?_
    rintro r w5 ⟨rfl, hk5⟩
    have HK5 := hid (HK4.out.trans hk5)
    clear hk5
    go_wp2
    go_ret
    exact ⟨rfl, HK5.out.below⟩
  have hby := back_yes hf0
  have HINJ : Hid (fitC fs bs = 0 → packS fs aa = packS fs bs → aa = bs) := hid (fun h1 h2 => pack_inj hf0 h1 h2)
  have hsz : (packS fs aa).size ≤ 9223372036854775807 := by
    rw [packS_ok hf0]
    show (packL fs aa).toArray.size ≤ _
    rw [List.size_toArray, packL_len hf0]
    have h0 := (fitC_zero hf0).1
    unfold layC at h0
    by_cases c1 : 8 < fs.length
    · rw [if_pos c1] at h0; omega
    · rw [if_neg c1] at h0
      by_cases c2 : ∀ f ∈ fs, okF f
      · rw [if_pos c2] at h0
        by_cases c3 : 256 < pSize fs
        · rw [if_pos c3] at h0; omega
        · omega
      · rw [if_neg c2] at h0; omega
  rw [hf0]
  have HUN : Hid (∀ wy, Keep (fun _ => False) w wy → Calls Try.prog 14 #[.slice p fs.length cap, .string (packS fs aa)] wy fun r w' => ∃ a c, r = .returned (.tuple #[.slice a aa.length c, iV 0]) ∧ w'.ownsRow wy.heap.size 57 3 (.slice a aa.length c) aa.length (aa.flatMap wcl) ∧ Keep (fun _ => False) wy w') := hid (fun wy h => by
    have hc := lay_unpack fs p cap (packS fs aa) wy HCP.out hsz (HFP.out wy h)
    rwa [hby.1, hby.2] at hc)
  have HPE : Hid (aa = bs → packS fs aa = packS fs bs) := hid (fun h => by rw [h])
  clear hf0 hby hsz
  generalize packS fs aa = xa at *
  go_wp2_with fail
  refine (HUN.out _ HK4.out).mono ?_
  rintro r w5 ⟨ua, uc, rfl, hown, hk5⟩
  have HK5 := hid (HK4.out.trans hk5); have HO := hid hown
  clear hk5 hown
  go_wp2_with fail
  refine (HPB.out _ HK5.out).mono ?_
  rintro r w6 ⟨rfl, hk6⟩
  have HK6 := hid (HK5.out.trans hk6); have HO6 := hid (owns_keep HO.out (fun i hi => hk6.block i (HO.out.lt i hi).2 id))
  clear hk6
  go_wp2_with fail
  refine (vals_of aa aa ua qa uc ca _ (by omega) (xp_own rfl HO6.out) (HAP.out _ HK6.out)).mono ?_
  rintro r w7 ⟨rfl, hk7⟩
  rw [eqV_self]
  have HK7 := hid (HK6.out.trans hk7)
  clear hk7
  by_cases hb0 : fitC fs bs = 0
  rotate_left
  · obtain ⟨y, hy⟩ : ∃ y, fitC fs bs = y := ⟨_, rfl⟩
    rw [hy] at hb0 ⊢
    have g2 : ((y : Int) != 0) = true := by rw [bne, beq_eq_false_iff_ne.2 (show (y : Int) ≠ 0 by omega)]; rfl
    have g3 : (y != 0) = true := by rw [bne, beq_eq_false_iff_ne.2 hb0]; rfl
    clear hb0 hy
    go_wp2
    go_ret
    exact ⟨rfl, HK7.out.below⟩
  have HI := hid (HINJ.out hb0)
  rw [hb0]
  clear hb0 HINJ
  generalize packS fs bs = xb at *
  have hvl := vals_of aa bs qa qb ca cb w7 (by omega) (HAP.out _ HK7.out) (HBP.out _ HK7.out)
  by_cases hab : aa = bs
  · have g2 : (xa.toList == xb.toList) = true := by rw [HPE.out hab]; simp
    rw [eqV_yes hab] at hvl
    clear hab
    go_wp2_with fail
    refine hvl.mono ?_
    rintro r w8 ⟨rfl, hk8⟩
    have HK8 := hid (HK7.out.trans hk8)
    clear hk8 hvl
    go_wp2
    go_ret
    exact ⟨rfl, HK8.out.below⟩
  · have g2 : (xa.toList == xb.toList) = false := beq_eq_false_iff_ne.2 (fun h => hab (HI.out (toList_inj h)))
    rw [eqV_no hab] at hvl
    clear hab
    go_wp2_with fail
    refine hvl.mono ?_
    rintro r w8 ⟨rfl, hk8⟩
    have HK8 := hid (HK7.out.trans hk8)
    clear hk8 hvl
    go_wp2
    go_ret
    exact ⟨rfl, HK8.out.below⟩
end Go.Proofs.Ytkgkcnmnfhehfaa
