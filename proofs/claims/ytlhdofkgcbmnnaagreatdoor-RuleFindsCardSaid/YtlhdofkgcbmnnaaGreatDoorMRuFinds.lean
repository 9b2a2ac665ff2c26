/- What is proved: the walk of RuleFinds: rules are found, made, compared and shown as the document says. -/
import Derived.Test.YtlhdofkgcbmnnaaGreatDoorMRuAwake
import Derived.Test.YtlhdofkgcbmnnaaGreatDoorMRuForm
import Derived.Test.YtlhdofkgcbmnnaaGreatDoorMRf12a
import Derived.Test.YtlhdofkgcbmnnaaGreatDoorMRf1Text
import Derived.Test.YtlhdofkgcbmnnaaGreatDoorMHeap
import Derived.Test.YtlhdofkgcbmnnaaGreatDoorProg
import Derived.Deep.Slices
import Derived.Deep.Strs
import Derived.ProofKit
import Derived.OpenShut
import Derived.ShutString
import Derived.ChangeOld
import Derived.Below
import Derived.Test.YtlhdofkgcbmnnaaGreatDoorMWide2
import Derived.Lib.SmallJoins
namespace Go.Proofs.YtlhdofkgcbmnnaaGreatDoor
open Go.RowKit Go.Proofs.Heap Go.Proofs.Sch Go.Proofs.Wide

theorem up_one {w : World} {g c : Nat} {T : TypeId} {x : Rul} {p : Option Addr} (h : w.heap[g]? = some (.cells #[.int .i64 x.new, .int .i64 x.old, .slice p x.exprs.length c] T (0, 0))) (hc : x.exprs.length ≤ c) (he : EP w w.heap.size p x.exprs) : UP w w.heap.size (some ⟨g, 0, none⟩) [x] := by
  refine .inr ⟨g, 0, rfl, lt_of_heap h, fun i y hy => ?_⟩
  match i, hy with
  | 0, hy =>
    injection hy with hy; subst hy
    exact ⟨cell_of h rfl, cell_of h rfl, p, c, cell_of h rfl, hc, he⟩
  | i + 1, hy => simp at hy
theorem found_lit {rs : List Rul} (h : ∀ r ∈ rs, LitR r) (id : Int) : LitR (foundR rs id) := by
  unfold foundR
  cases hf : rs.find? (newIs id) with
  | none => exact ⟨Nat.zero_le _, fun c hc => by simp [nilR] at hc⟩
  | some x => exact h x (List.mem_of_find?_eq_some hf)
theorem idx_is (rs : List Rul) (id : Int) : decide ((0 : Int) ≤ idxI (newIs id) rs) = isR rs id := by
  rcases idx_casesR rs id with ⟨k, r, h1, _, _, h2⟩ | ⟨h1, _, h2⟩
  · rw [h1, h2]; exact decide_eq_true (by omega)
  · rw [h1, h2]; rfl

set_option maxRecDepth 20000 in
set_option maxHeartbeats 64000000 in
theorem ru_finds (a b c d : Int) (rs us : List Rul) (pa : Option Addr) (ca : Nat) (pb : Option Addr) (cb : Nat) (id : Int) (w : World) (hfA : ∀ r ∈ rs, FitR r) (hA : UP w w.heap.size pa rs) (hB : UP w w.heap.size pb us) :
    Calls Tryz.prog 4 #[PgV a b pa rs.length ca, PgV c d pb us.length cb, .int .i64 id] w fun r w' => r = .returned (.bool true) ∧ Keep (fun _ => False) w w' := by
  obtain ⟨w1, hw1, hb1, hb2, hs1, hk1⟩ := box2 w #[.int .i64 a, .int .i64 b, .slice pa rs.length ca] #[.int .i64 c, .int .i64 d, .slice pb us.length cb] 24 24
  have HK1 := hid hk1; have HB1 := hid hb1; have HB2 := hid hb2
  have HUA := hid (fun (wy : World) (hk : Keep (fun _ => False) w wy) => UP.mono (UP.low hA (Low.keep0 hk)) hk.size)
  have HUB := hid (fun (wy : World) (hk : Keep (fun _ => False) w wy) => UP.mono (UP.low hB (Low.keep0 hk)) hk.size)
  have HFA := hid hfA
  clear hb1 hb2 hs1 hk1 hA hB hfA
  go_enter Tryz.func4, Tryz.ntmps4
  go_upto_region 1 with fail
  rw [← hw1]
  clear hw1
  obtain ⟨sb, hsb⟩ : ∃ sb, w.heap.size = sb := ⟨_, rfl⟩
  rw [hsb] at HB1 HB2 ⊢
  clear hsb
  have HC : Hid (∀ wy, Keep (fun _ => False) w1 wy → wy.cell? ⟨sb, 0, none⟩ = some (.int .i64 a) ∧ wy.cell? ⟨sb, 1, none⟩ = some (.int .i64 b) ∧ wy.cell? ⟨sb, 2, none⟩ = some (.slice pa rs.length ca) ∧ wy.cell? ⟨sb + 1, 0, none⟩ = some (.int .i64 c) ∧ wy.cell? ⟨sb + 1, 1, none⟩ = some (.int .i64 d) ∧ wy.cell? ⟨sb + 1, 2, none⟩ = some (.slice pb us.length cb)) := hid (fun wy hk =>
    ⟨cell_of (hk.get HB1.out (fun e => e)) (by rfl), cell_of (hk.get HB1.out (fun e => e)) (by rfl), cell_of (hk.get HB1.out (fun e => e)) (by rfl), cell_of (hk.get HB2.out (fun e => e)) (by rfl), cell_of (hk.get HB2.out (fun e => e)) (by rfl), cell_of (hk.get HB2.out (fun e => e)) (by rfl)⟩)
  go_wp2_with fail
  refine (ru_awake w1).mono ?_
  rintro r w2 ⟨rfl, hk⟩
  have HP2 := hid hk
  clear hk
  obtain ⟨a0, a1, a2, b0, b1, b2⟩ := HC.out w2 HP2.out
  have HGA := hid (ru_great a b rs pa ca w2 (HUA.out w2 (HK1.out.trans HP2.out)))
  go_wp2_with fail
  refine HGA.out.mono ?_
  rintro r w3 ⟨rfl, hk⟩
  have HP3 := hid (HP2.out.trans hk)
  clear hk HGA a0 a1 a2 b0 b1 b2
  cases ga : greatP rs
  rotate_left
  · clear ga
    go_wp2
    go_ret
    exact ⟨rfl, HK1.out.trans HP3.out⟩
  have HSA := hid (lit_of ga)
  clear ga
  obtain ⟨a0, a1, a2, b0, b1, b2⟩ := HC.out w3 HP3.out
  have HGB := hid (ru_great c d us pb cb w3 (HUB.out w3 (HK1.out.trans HP3.out)))
  go_wp2_with fail
  refine HGB.out.mono ?_
  rintro r w4 ⟨rfl, hk⟩
  have HP4 := hid (HP3.out.trans hk)
  clear hk HGB a0 a1 a2 b0 b1 b2
  cases gb : greatP us
  rotate_left
  · clear gb
    go_wp2
    go_ret
    exact ⟨rfl, HK1.out.trans HP4.out⟩
  have HSB := hid (lit_of gb)
  clear gb
  have hl30 := HSA.out.1
  have hl30b := HSB.out.1
  obtain ⟨a0, a1, a2, b0, b1, b2⟩ := HC.out w4 HP4.out
  have HFM := hid (ru_form a b rs pa ca w4 (by omega) HSA.out.2 (HUA.out w4 (HK1.out.trans HP4.out)))
  go_wp2_with fail
  refine HFM.out.mono ?_
  rintro r w5 ⟨p5, c5, rfl, _, hu5, hk⟩
  have HP5 := hid (HP4.out.trans hk)
  clear hk HFM a0 a1 a2 b0 b1 b2
  obtain ⟨w6, hw6, hb6, hs6, hk6⟩ := box1 w5 #[.int .i64 a, .int .i64 b, .slice p5 rs.length c5] 29
  have HP6 := hid (HP5.out.trans hk6)
  have HU5 := hid (fun (wy : World) (hk : Keep (fun _ => False) w6 wy) => UP.mono (UP.low hu5 (Low.keep0 (hk6.trans hk))) (hk6.trans hk).size)
  have HB6 := hid hb6
  clear hu5 hb6 hs6 hk6
  go_upto_region 6 with fail
  rw [← hw6]
  clear hw6
  obtain ⟨ub, hub⟩ : ∃ ub, w5.heap.size = ub := ⟨_, rfl⟩
  rw [hub] at HB6 ⊢
  clear hub
  have HD : Hid (∀ wy, Keep (fun _ => False) w6 wy → wy.cell? ⟨ub, 0, none⟩ = some (.int .i64 a) ∧ wy.cell? ⟨ub, 1, none⟩ = some (.int .i64 b) ∧ wy.cell? ⟨ub, 2, none⟩ = some (.slice p5 rs.length c5)) := hid (fun wy hk => ⟨cell_of (hk.get HB6.out (fun e => e)) (by rfl), cell_of (hk.get HB6.out (fun e => e)) (by rfl), cell_of (hk.get HB6.out (fun e => e)) (by rfl)⟩)
  obtain ⟨d0, d1, d2⟩ := HD.out w6 (Keep.refl _ _)
  have HF7 := hid (r_find12 a b rs p5 c5 id w6 (by omega) (HU5.out w6 (Keep.refl _ _)))
  have HII := hid (idx_is rs id)
  have HIC := hid (idx_casesR rs id)
  generalize idxI (newIs id) rs = ix at *
  go_wp2_with fail
  refine HF7.out.mono ?_
  rintro r w7 ⟨rfl, hk⟩
  have HQ7 := hid hk
  have HP7 := hid (HP6.out.trans hk)
  clear hk HF7 d0 d1 d2
  obtain ⟨a0, a1, a2, b0, b1, b2⟩ := HC.out w7 HP7.out
  have HFI := hid (ru_find a b rs pa ca id w7 (by omega) HSA.out.2 (HUA.out w7 (HK1.out.trans HP7.out)))
  have HFL := hid (found_lit HSA.out.2 id)
  generalize foundR rs id = F at *
  generalize isR rs id = is_ at *
  obtain ⟨fn, fo, fe⟩ := F
  go_wp2_with fail
  refine HFI.out.mono ?_
  rintro r w8 ⟨fp, fc, rfl, hfc, hfe, hk⟩
  have HQ8 := hid (HQ7.out.trans hk)
  have HP8 := hid (HP7.out.trans hk)
  clear hk HFI a0 a1 a2 b0 b1 b2
  obtain ⟨w9, hw9, hb9, hs9, hk9⟩ := box1 w8 #[.int .i64 fn, .int .i64 fo, .slice fp fe.length fc] 46
  have HQ9 := hid (HQ8.out.trans hk9)
  have HP9 := hid (HP8.out.trans hk9)
  go_upto_region 8 with fail
  rw [← hw9]
  clear hw9
  obtain ⟨w10, hw10, hb10, hs10, hk10⟩ := box1 w9 #[.int .i64 fn, .int .i64 fo, .slice fp fe.length fc] 46
  have HQ10 := hid (HQ9.out.trans hk10)
  have HP10 := hid (HP9.out.trans hk10)
  have HFO := hid (ru_form 0 0 [⟨fn, fo, fe⟩] (some ⟨w9.heap.size, 0, none⟩) 1 w10 (by simp) (fun r hr => by rw [List.mem_singleton.1 hr]; exact HFL.out) (up_one hb10 hfc (EP.mono (EP.low hfe (Low.keep0 (hk9.trans hk10))) (hk9.trans hk10).size)))
  simp only [List.length_singleton] at HFO
  have f0 := cell_of hb9 (i := 0) (by rfl)
  have f1 := cell_of hb9 (i := 1) (by rfl)
  have f2 := cell_of hb9 (i := 2) (by rfl)
  clear hfc hfe hb9 hs9 hk9 hb10 hs10 hk10
  generalize w8.heap.size = fb at *
  go_wp2_with fail
  rw [← hw10]
  clear hw10
  refine HFO.out.mono ?_
  rintro r w11 ⟨p11, c11, rfl, _, hu11, hk⟩
  have HQ11 := hid (HQ10.out.trans hk)
  have HP11 := hid (HP10.out.trans hk)
  clear hk HFO f0 f1 f2
  obtain ⟨w12, hw12, hb12, hs12, hk12⟩ := box1 w11 #[.int .i64 0, .int .i64 0, .slice p11 1 c11] 29
  have HQ12 := hid (HQ11.out.trans hk12)
  have HP12 := hid (HP11.out.trans hk12)
  have HB12 := hid hb12
  have HU11 := hid (fun (wy : World) (hk : Keep (fun _ => False) w12 wy) => UP.mono (UP.low hu11 (Low.keep0 (hk12.trans hk))) (hk12.trans hk).size)
  clear hu11 hb12 hs12 hk12
  go_upto_region 9 with fail
  rw [← hw12]
  clear hw12
  obtain ⟨gb, hgb⟩ : ∃ gb, w11.heap.size = gb := ⟨_, rfl⟩
  rw [hgb] at HB12 ⊢
  clear hgb
  obtain ⟨w13, hw13, hb13, hc13, hs13, hk13⟩ := box2 w12 #[.int .i64 0, .int .i64 0, .slice none 0 0] #[.int .i64 0, .int .i64 0, .slice (some ⟨w12.heap.size, 0, none⟩) 1 1] 51 29
  have HQ13 := hid (HQ12.out.trans hk13)
  have HP13 := hid (HP12.out.trans hk13)
  have HG13 := hid hk13
  have HZ13 := hid hb13; have HH13 := hid hc13
  clear hb13 hc13 hs13 hk13
  go_upto_region 10 with fail
  rw [← hw13]
  clear hw13
  have HZS : Hid (w12.heap.size = w12.heap.size) := hid rfl
  obtain ⟨zb, hzb⟩ : ∃ zb, w12.heap.size = zb := ⟨_, rfl⟩
  rw [hzb] at HZ13 HH13 ⊢
  have HZB := hid hzb
  have HUZ : Hid (UP w12 zb p5 rs) := hid (by have h := HU5.out w12 HQ12.out; rwa [hzb] at h)
  clear hzb HZS
  have hiz := HII.out
  go_upto_if 45 with fail
  go_cut [] from 45 to 53 (fun wx => ∃ (p : Option Addr) (z : Nat), wx.heap[zb]? = some (.cells #[.int .i64 fn, .int .i64 fo, .slice p fe.length z] 51 (0, 0)) ∧ fe.length ≤ z ∧ EP wx wx.heap.size p fe ∧ Keep (fun g => g = zb) w13 wx)
  case first =>
    rcases HIC.out with ⟨k, x, hi, hxk, hf1, hf2⟩ | ⟨hi, hf1, hf2⟩
    · subst hf2
      subst hf1
      have hlt := (List.getElem?_eq_some_iff.1 hxk).1
      have hin : (0 : Int) ≤ ix ∧ ix < (rs.length : Int) := ⟨by omega, by omega⟩
      obtain rfl : k = ix.toNat := by omega
      have HXK := hid hxk
      clear hi hxk hlt hiz
      go_upto_region 11 with fail
      have HG14 := hid (Keep.refl (fun _ => False) w13).drew
      refine Plan.wp_region_pl [(false, 0, []), (false, 1, []), (false, 2, []), (false, 3, []), (false, 4, []), (false, 5, []), (false, 6, []), (false, 7, []), (true, 8, [])] (by as_aux_lemma => kernel_rfl) (by as_aux_lemma => kernel_rfl) ?_
      generalize w13.drew = wd at *
      obtain ⟨d0, d1, d2⟩ := HD.out wd (HQ13.out.trans HG14.out)
      have HZD := hid (HG14.out.get HZ13.out (fun e => e))
      have h2 := cell_of (HG14.out.get HH13.out (fun e => e)) (i := 2) (by rfl)
      obtain ⟨xb, xo, xp, xc, rfl, hxb, x0, x1, x2, hxc, hxe⟩ := UP.at (UP.low HUZ.out (by have h := Low.keep0 (HG13.out.trans HG14.out); rwa [HZB.out] at h)) HXK.out
      have HXC := hid hxc; have HXE := hid hxe
      clear hxb hxc hxe
      iterate 8 (refine Plan.pl_st rfl ?_; go_big_quiet_step (fail); refine wpQuiet_nil ?_)
      have z0 := cell_of HZD.out (i := 0) (by rfl)
      have z1 := cell_of HZD.out (i := 1) (by rfl)
      have z2 := cell_of HZD.out (i := 2) (by rfl)
      have y0 := free_of HZD.out 0
      have y1 := free_of HZD.out 1
      have y2 := free_of HZD.out 2
      have HZ2 : Hid ((((wd.setCell ⟨zb, 0, none⟩ (.int .i64 fn)).setCell ⟨zb, 1, none⟩ (.int .i64 fo)).setCell ⟨zb, 2, none⟩ (.slice xp fe.length xc)).heap[zb]? = some (.cells #[.int .i64 fn, .int .i64 fo, .slice xp fe.length xc] 51 (0, 0))) := hid (hsc_same (hsc_same (hsc_same HZD.out 0 _) 1 _) 2 _)
      have HKZ : Hid (Keep (fun g => g = zb) w13 (((wd.setCell ⟨zb, 0, none⟩ (.int .i64 fn)).setCell ⟨zb, 1, none⟩ (.int .i64 fo)).setCell ⟨zb, 2, none⟩ (.slice xp fe.length xc))) := hid ((((HG14.out.mono (T := fun g => g = zb) (fun _ _ e => e.elim)).setCell (p := ⟨zb, 0, none⟩) rfl _).setCell (p := ⟨zb, 1, none⟩) rfl _).setCell (p := ⟨zb, 2, none⟩) rfl _)
      refine Plan.pl_ac rfl ?_
      go_wp2
      refine Plan.plQ_mk Plan.chk_end ?_
      refine Plan.pl_end ?_
      clear d0 d1 d2 h2 x0 x1 x2 z0 z1 z2 y0 y1 y2
      go_wp2
      go_meet
      case rel =>
        refine ⟨xp, xc, HZ2.out, HXC.out, ?_, HKZ.out⟩
        exact EP.mono (EP.low HXE.out (fun g hg => by rw [hsc_ne _ (show g ≠ zb by omega), hsc_ne _ (show g ≠ zb by omega), hsc_ne _ (show g ≠ zb by omega)])) (by have h1 := HKZ.out.size; have h2 := lt_of_heap HZ13.out; omega)
    · subst hf2
      injection hf1 with hf1 hf2 hf3
      subst hf1; subst hf2; subst hf3
      clear hi hiz
      go_wp2
      go_meet
      case rel => exact ⟨none, 0, HZ13.out, Nat.le_refl _, .inl rfl, Keep.refl _ _⟩
  case rest =>
  obtain ⟨zp, zz, hz14, hzl, hze, hg14⟩ := hcut
  generalize wc = w14 at *
  have HP14 : Hid (Keep (fun _ => False) w1 w14) := hid (keep_new HP13.out hg14 (fun g e => by have := HP12.out.size; have := HZB.out; omega))
  have HQ14 : Hid (Keep (fun _ => False) w6 w14) := hid (keep_new HQ13.out hg14 (fun g e => by have := HQ12.out.size; have := HZB.out; omega))
  have HG14 : Hid (Keep (fun _ => False) w12 w14) := hid (keep_new HG13.out hg14 (fun g e => by have := HZB.out; omega))
  have HUZ1 := hid (up_one (x := ⟨fn, fo, fe⟩) hz14 hzl hze)
  have HH14 := hid (hg14.get HH13.out (fun e => by omega))
  have HB14 := hid (HG14.out.get HB12.out (fun e => e))
  clear hz14 hzl hze hg14 HIC
  go_upto_region 12 with fail
  have HG15 := hid (Keep.refl (fun _ => False) w14).drew
  refine Plan.wp_region_pl [(false, 0, []), (false, 1, []), (false, 2, []), (false, 3, []), (false, 4, []), (false, 5, []), (false, 6, []), (true, 7, []), (false, 8, []), (false, 9, []), (false, 10, []), (false, 11, []), (false, 12, []), (false, 14, []), (false, 15, []), (true, 13, [15, 14]), (true, 16, [14]), (true, 17, []), (false, 18, []), (false, 19, [])] (by as_aux_lemma => kernel_rfl) (by as_aux_lemma => kernel_rfl) ?_
  generalize w14.drew = wd at *
  have h0 := cell_of (HG15.out.get HH14.out (fun e => e)) (i := 0) (by rfl)
  have h1 := cell_of (HG15.out.get HH14.out (fun e => e)) (i := 1) (by rfl)
  have h2 := cell_of (HG15.out.get HH14.out (fun e => e)) (i := 2) (by rfl)
  have k0 := cell_of (HG15.out.get HB14.out (fun e => e)) (i := 0) (by rfl)
  have k1 := cell_of (HG15.out.get HB14.out (fun e => e)) (i := 1) (by rfl)
  have k2 := cell_of (HG15.out.get HB14.out (fun e => e)) (i := 2) (by rfl)
  have gi : (is_ != is_) = false := by cases is_ <;> rfl
  have gi2 : (!(is_ == is_)) = false := by cases is_ <;> rfl
  iterate 7 (refine Plan.pl_st rfl ?_; go_big_quiet_step (fail); refine wpQuiet_nil ?_)
  have HSM := hid (ru_same12 0 0 [⟨fn, fo, fe⟩] p11 c11 0 0 [⟨fn, fo, fe⟩] (some ⟨zb, 0, none⟩) 1 wd (by simp) (fun r hr => by rw [List.mem_singleton.1 hr]; exact HFL.out) (HU11.out wd (HG14.out.trans HG15.out)) (UP.mono (UP.low HUZ1.out (Low.keep0 HG15.out)) HG15.out.size))
  rw [show sameP 0 0 [⟨fn, fo, fe⟩] 0 0 [⟨fn, fo, fe⟩] = true from decide_eq_true ⟨rfl, rfl, rfl⟩] at HSM
  simp only [List.length_singleton] at HSM
  refine Plan.pl_ac rfl ?_
  go_wp2_with fail
  refine HSM.out.mono ?_
  rintro r w15 ⟨rfl, hk⟩
  have HG16 := hid (HG15.out.trans hk)
  clear hk HSM h0 h1 h2 k0 k1 k2 gi gi2 hiz
  go_wp2
  refine Plan.plQ_mk Plan.chk_end ?_
  obtain ⟨a0, a1, a2, b0, b1, b2⟩ := HC.out w15 (HP14.out.trans HG16.out)
  obtain ⟨d0, d1, d2⟩ := HD.out w15 (HQ14.out.trans HG16.out)
  iterate 7 (refine Plan.pl_st rfl ?_; go_big_quiet_step (fail); refine wpQuiet_nil ?_)
  have HSM := hid (ru_same a b rs pa ca c d us pb cb w15 (by omega) (small_lit HSA.out.2) (HUA.out w15 (HK1.out.trans (HP14.out.trans HG16.out))) (HUB.out w15 (HK1.out.trans (HP14.out.trans HG16.out))))
  have HSN := hid (fun (p : Option Addr) (z : Nat) (wy : World) (h1 : UP wy wy.heap.size p5 rs) (h2 : UP wy wy.heap.size p us) => ru_same12 a b rs p5 c5 c d us p z wy (by omega) HSA.out.2 h1 h2)
  generalize sameP a b rs c d us = D at *
  refine Plan.pl_ac rfl ?_
  go_wp2_with fail
  refine HSM.out.mono ?_
  rintro r w16 ⟨rfl, hk⟩
  have HG17 := hid (HG16.out.trans hk)
  clear hk HSM a0 a1 a2 b0 b1 b2 d0 d1 d2
  obtain ⟨a0, a1, a2, b0, b1, b2⟩ := HC.out w16 (HP14.out.trans HG17.out)
  obtain ⟨d0, d1, d2⟩ := HD.out w16 (HQ14.out.trans HG17.out)
  go_wp2
  refine Plan.plQ_mk ?_ ?_
  · iterate 2 (refine Plan.chk_st rfl ?_ ?_; focus (go_big_quiet_step (fail); exact wpQuiet_nil rfl))
    exact Plan.chk_end
  have HFB := hid (ru_form c d us pb cb w16 (by omega) HSB.out.2 (HUB.out w16 (HK1.out.trans (HP14.out.trans HG17.out))))
  refine Plan.pl_ac rfl ?_
  go_wp2_with fail
  refine HFB.out.mono ?_
  rintro r w17 ⟨p17, c17, rfl, _, hu17, hk⟩
  have HG18 := hid (HG17.out.trans hk)
  have HU17 := hid hu17
  clear hk hu17 HFB a0 a1 a2 b0 b1 b2 d0 d1 d2
  obtain ⟨d0, d1, d2⟩ := HD.out w17 (HQ14.out.trans HG18.out)
  go_wp2
  refine Plan.plQ_mk ?_ ?_
  · iterate 1 (refine Plan.chk_st rfl ?_ ?_; focus (go_big_quiet_step (fail); exact wpQuiet_nil rfl))
    exact Plan.chk_end
  have HS2 := hid (HSN.out p17 c17 w17 (HU5.out w17 (HQ14.out.trans HG18.out)) HU17.out)
  refine Plan.pl_ac rfl ?_
  go_wp2_with fail
  refine HS2.out.mono ?_
  rintro r w18 ⟨rfl, hk⟩
  have HG19 := hid (HG18.out.trans hk)
  clear hk HS2 d0 d1 d2
  have gi : (D != D) = false := by cases D <;> rfl
  have gi2 : (!(D == D)) = false := by cases D <;> rfl
  go_wp2
  refine Plan.plQ_mk Plan.chk_end ?_
  iterate 2 (refine Plan.pl_st rfl ?_; go_big_quiet_step (fail); refine wpQuiet_nil ?_)
  refine Plan.pl_end ?_
  have HP18 := hid (HP14.out.trans HG19.out)
  have HQ18 := hid (HQ14.out.trans HG19.out)
  clear gi gi2 HU17 HUZ1 HH14 HB14 HU11 HG13 HG14 HG15 HG16 HG17 HG18 HG19 HSN HFL HZ13 HH13 HB12
  obtain ⟨a0, a1, a2, b0, b1, b2⟩ := HC.out w18 HP18.out
  have HFR := hid (ru_from a b rs pa ca id w18 (by omega) (HUA.out w18 (HK1.out.trans HP18.out)))
  go_wp2_with fail
  refine HFR.out.mono ?_
  rintro r w19 ⟨lv, rfl, hlo, hk⟩
  obtain ⟨lp, lc, rfl⟩ := owns_val hlo
  have HLO := hid hlo
  have HP19 := hid (HP18.out.trans hk)
  have HQ19 := hid (HQ18.out.trans hk)
  clear hk HFR hlo a0 a1 a2 b0 b1 b2
  have HTK := hid (fun k => fromL_le id rs k)
  obtain ⟨ln, hln⟩ : ∃ ln, (fromL id rs).length = ln := ⟨_, rfl⟩
  have HLN := hid hln
  rw [hln] at HLO ⊢
  have hlnb : ln ≤ 30 := by have := HTK.out rs.length; rw [List.take_length] at this; omega
  clear hln
  go_wp2_with fail
  go_loopw [14, 15] (fun n i wr => ∃ k : Nat, k ≤ rs.length ∧ i = iV k ∧ n = iV (fromL id (rs.take k)).length ∧ Keep (fun _ => False) w19 wr) (fun _ i _ => rs.length + 1 - (intOf i).toNat)
  case atStart => exact ⟨0, Nat.zero_le _, rfl, rfl, Keep.refl _ _⟩
  case round =>
    obtain ⟨k, hk, rfl, rfl, hkr⟩ := hrel
    have HKR := hid hkr
    clear hkr
    obtain ⟨fk, hfk⟩ : ∃ fk, (fromL id (rs.take k)).length = fk := ⟨_, rfl⟩
    have HFK := hid hfk
    rw [hfk]
    have hfk30 : fk ≤ 30 := by have := HTK.out k; omega
    clear hfk
    obtain ⟨d0, d1, d2⟩ := HD.out wr (HQ19.out.trans HKR.out)
    by_cases hlt : k < rs.length
    · obtain ⟨x, hxk⟩ : ∃ x, rs[k]? = some x := ⟨rs[k], by simp [hlt]⟩
      have HNX := hid (fromL_next (id := id) hxk)
      have HAT := hid (fun hm => from_at (id := id) hxk hm)
      have hin : (0 : Int) ≤ (k : Int) ∧ (k : Int) < (rs.length : Int) := ⟨by omega, by omega⟩
      have HUX := hid (fun (wy : World) (hk : Keep (fun _ => False) w6 wy) => UP.at (HU5.out wy hk) hxk)
      obtain ⟨xb, xo, xp, xc, rfl, hxb, x0, x1, x2, _, _⟩ := HUX.out wr (HQ19.out.trans HKR.out)
      have HX0 : Hid (∀ wy, Keep (fun _ => False) wr wy → wy.cell? ⟨xb, xo + k * 3, none⟩ = some (.int .i64 x.new)) := hid (fun wy hk => ((Low.keep0 hk).cell (o := xo + k * 3) hxb).trans x0)
      clear hxk hxb
      by_cases hop : x.old = id ∧ id ≠ 0
      rotate_left
      · have G : Hid (fk = (fromL id (rs.take (k + 1))).length) := hid (by rw [HNX.out, if_neg (by unfold madeB; simpa using hop), List.append_nil, HFK.out])
        by_cases h0 : id = 0
        · have g1 : (id == 0) = true := by simp [h0]
          clear hop h0
          go_wp2
          go_roundw
          case rel => exact ⟨k + 1, by omega, by go_num, by rw [← G.out], HKR.out⟩
          case measure => simp [intOf]; omega
        · have h1 : x.old ≠ id := fun h => hop ⟨h, h0⟩
          have g1 : (id == 0) = false := beq_eq_false_iff_ne.2 h0
          have g2 : (x.old != id) = true := bne_iff_ne.2 h1
          clear hop h0 h1
          go_wp2
          go_roundw
          case rel => exact ⟨k + 1, by omega, by go_num, by rw [← G.out], HKR.out⟩
          case measure => simp [intOf]; omega
      · have HMD : Hid (madeB id x = true) := hid (decide_eq_true hop)
        have G : Hid ((fromL id (rs.take (k + 1))).length = fk + 1) := hid (by rw [HNX.out, if_pos HMD.out, List.length_append, HFK.out]; rfl)
        have hat := (HAT.out HMD.out).1
        have hfl : fk < ln := by have := (HAT.out HMD.out).2; rw [HFK.out, HLN.out] at this; exact this
        rw [HFK.out] at hat
        obtain ⟨lg, rfl⟩ := owns_some HLO.out (by omega)
        have HCL : Hid (∀ wy, Keep (fun _ => False) w19 wy → wy.cell? ⟨lg, fk, none⟩ = some (.int .i64 x.new)) := hid (fun wy hk => by rw [owns_cell (owns_keep HLO.out (fun j hj => hk.block j (HLO.out.lt j hj).2 (fun e => e))) hfl, List.getElem?_map, hat]; rfl)
        have g1 : (id == 0) = false := beq_eq_false_iff_ne.2 hop.2
        have g2 : (x.old != id) = false := by rw [hop.1]; simp
        clear hat hop
        go_upto_region 20 with fail
        clear g1 g2 d0 d1 d2 x0 x1 x2
        have HKD := hid (Keep.refl (fun _ => False) wr).drew
        refine Plan.wp_region_pl [(false, 0, []), (false, 1, []), (false, 2, []), (false, 3, []), (false, 4, []), (false, 5, []), (false, 6, []), (false, 7, []), (false, 8, []), (false, 9, []), (false, 10, []), (false, 11, []), (false, 12, []), (false, 13, []), (false, 14, []), (false, 15, []), (false, 16, [])] (by as_aux_lemma => kernel_rfl) (by as_aux_lemma => kernel_rfl) ?_
        generalize wr.drew = wf at *
        obtain ⟨d0, d1, d2⟩ := HD.out wf (HQ19.out.trans (HKR.out.trans HKD.out))
        have x0 := HX0.out wf HKD.out
        have l0 := HCL.out wf (HKR.out.trans HKD.out)
        have e1 : (x.new != x.new) = false := by simp
        have g3 : decide ((ln : Int) ≤ (fk : Int)) = false := decide_eq_false (by omega)
        have g4 : decide (ln ≤ fk) = false := decide_eq_false (by omega)
        have hin2 : (0 : Int) ≤ (fk : Int) ∧ (fk : Int) < (ln : Int) := ⟨by omega, by omega⟩
        iterate 17 (refine Plan.pl_st rfl ?_; go_big_quiet_step (fail); refine wpQuiet_nil ?_)
        refine Plan.pl_end ?_
        clear l0 x0 e1 g3 g4 d0 d1 d2
        go_wp2
        go_roundw
        case rel => exact ⟨k + 1, by omega, by go_num, by rw [G.out]; go_num, HKR.out.trans HKD.out⟩
        case measure => simp [intOf]; omega
    · obtain rfl : k = rs.length := by omega
      have hfe : fk = ln := by have h := HFK.out; rw [List.take_length] at h; have := HLN.out; omega
      subst hfe
      have g0 : decide ((rs.length : Int) < (rs.length : Int)) = false := decide_eq_false (by omega)
      obtain ⟨a0, a1, a2, b0, b1, b2⟩ := HC.out wr (HP19.out.trans HKR.out)
      have HLNS := hid (ru_lines a b rs pa ca wr (by omega) HFA.out (HUA.out wr (HK1.out.trans (HP19.out.trans HKR.out))))
      unfold TxtS at HLNS
      go_wp2_with fail
      refine HLNS.out.mono ?_
      rintro r w20 ⟨yp, yc, rfl, hyo, hk⟩
      have HYO := hid hyo
      have HK20 := hid (HKR.out.trans hk)
      clear hk hyo HLNS a0 a1 a2 b0 b1 b2 d0 d1 d2 g0
      obtain ⟨d0, d1, d2⟩ := HD.out w20 (HQ19.out.trans HK20.out)
      have HCK := hid (r_check12 a b rs p5 c5 w20 (by omega) (fun r hr => (HSA.out.2 r hr).1) HFA.out (HU5.out w20 (HQ19.out.trans HK20.out)))
      have HLE : Hid (progC a b rs ≠ 0 → ruLines a b rs = []) := hid (fun h => if_neg h)
      have HLG : Hid (progC a b rs = 0 → ruLines a b rs = rs.map ruLine) := hid (fun h => if_pos h)
      have HOK := hid (fun (h : progC a b rs = 0) => prog_ok h)
      generalize ruLines a b rs = YL at *
      generalize progC a b rs = C at *
      go_wp2_with fail
      refine HCK.out.mono ?_
      rintro r w21 ⟨rfl, hk⟩
      have HK21 := hid (HK20.out.trans hk)
      have HY21 := hid (owns_keep HYO.out (fun j hj => hk.block j (HYO.out.lt j hj).2 (fun e => e)))
      clear hk HCK d0 d1 d2
      have e1 : ((fk : Int) == (fk : Int)) = true := by simp
      have e1' : (fk == fk) = true := by simp
      by_cases hz : C = 0
      rotate_left
      · have hy := HLE.out hz
        subst hy
        have g1 : ((C : Int) != 0) = true := by rw [bne_iff_ne]; omega
        have g2 : (C != 0) = true := by rw [bne_iff_ne]; exact hz
        clear hz HOK
        go_wp2
        go_ret
        exact ⟨rfl, HK1.out.trans (HP19.out.trans HK21.out)⟩
      have hy := HLG.out hz
      subst hy
      have HOK2 := hid (HOK.out hz)
      subst hz
      clear HOK HLE HLG e1 e1'
      rw [List.length_map] at HY21 ⊢
      go_wp2_with fail
      go_loopw [17] (fun i wr => ∃ k : Nat, k ≤ rs.length ∧ i = iV k ∧ Keep (fun _ => False) w21 wr) (fun i _ => rs.length + 1 - (intOf i).toNat)
      case atStart => exact ⟨0, Nat.zero_le _, rfl, Keep.refl _ _⟩
      case round =>
        obtain ⟨k, hk, rfl, hkr⟩ := hrel
        have HKR2 := hid hkr
        clear hkr
        obtain ⟨d0, d1, d2⟩ := HD.out wr (HQ19.out.trans (HK21.out.trans HKR2.out))
        by_cases hlt : k < rs.length
        · obtain ⟨x, hxk⟩ : ∃ x, rs[k]? = some x := ⟨rs[k], by simp [hlt]⟩
          have hin : (0 : Int) ≤ (k : Int) ∧ (k : Int) < (rs.length : Int) := ⟨by omega, by omega⟩
          have HXF := hid (HFA.out x (List.mem_of_getElem? hxk))
          have HCO := hid (HOK2.out.2.2.2 x (List.mem_of_getElem? hxk))
          have HUX := hid (fun (wy : World) (hk : Keep (fun _ => False) w6 wy) => UP.at (HU5.out wy hk) hxk)
          obtain ⟨yg, rfl⟩ := owns_some HY21.out (by omega)
          have HCY : Hid (∀ wy, Keep (fun _ => False) w21 wy → wy.cell? ⟨yg, k, none⟩ = some (.string (ruLine x))) := hid (fun wy hk => by rw [owns_cell (owns_keep HY21.out (fun j hj => hk.block j (HY21.out.lt j hj).2 (fun e => e))) hlt, List.getElem?_map, List.getElem?_map, hxk]; rfl)
          clear hxk
          go_upto_region 29 with fail
          clear d0 d1 d2
          have HKD := hid (Keep.refl (fun _ => False) wr).drew
          refine Plan.wp_region_pl [(false, 0, []), (false, 1, []), (false, 2, []), (false, 3, []), (false, 4, []), (false, 5, []), (false, 6, []), (false, 7, []), (false, 8, []), (false, 9, []), (false, 10, []), (false, 11, []), (false, 12, []), (false, 13, []), (true, 14, [8, 7, 6, 5]), (false, 15, []), (false, 16, [])] (by as_aux_lemma => kernel_rfl) (by as_aux_lemma => kernel_rfl) ?_
          generalize wr.drew = wf at *
          obtain ⟨d0, d1, d2⟩ := HD.out wf (HQ19.out.trans (HK21.out.trans (HKR2.out.trans HKD.out)))
          obtain ⟨xb, xo, xp, xc, rfl, hxb, x0, x1, x2, _, hxe⟩ := HUX.out wf (HQ19.out.trans (HK21.out.trans (HKR2.out.trans HKD.out)))
          have HXE := hid hxe
          have HXB := hid hxb
          have y0 := HCY.out wf (HKR2.out.trans HKD.out)
          have g3 : decide ((rs.length : Int) ≤ (k : Int)) = false := decide_eq_false (by omega)
          have g4 : decide (rs.length ≤ k) = false := decide_eq_false (by omega)
          have HLI := hid (r_line12 x xp xc wf ⟨HCO.out.1, HCO.out.2.1⟩ ⟨HCO.out.2.2.1, HCO.out.2.2.2.1⟩ HCO.out.2.2.2.2.1 HCO.out.2.2.2.2.2 HXF.out HXE.out)
          obtain ⟨tx, htx⟩ : ∃ tx, ruLine x = tx := ⟨_, rfl⟩
          rw [htx] at HLI HCY y0
          clear hxe hxb htx
          iterate 14 (refine Plan.pl_st rfl ?_; go_big_quiet_step (fail); refine wpQuiet_nil ?_)
          refine Plan.pl_ac rfl ?_
          go_wp2_with fail
          refine HLI.out.mono ?_
          rintro r w23 ⟨rfl, hk⟩
          have HK23 := hid (HKR2.out.trans (HKD.out.trans hk))
          clear hk HLI y0 d0 d1 d2 x0 x1 x2
          have y0 := HCY.out w23 HK23.out
          go_wp2
          refine Plan.plQ_mk ?_ ?_
          · iterate 4 (refine Plan.chk_st rfl ?_ ?_; focus (go_big_quiet_step (fail); exact wpQuiet_nil rfl))
            exact Plan.chk_end
          have hse : (!tx.toList == tx.toList) = false := by simp
          iterate 2 (refine Plan.pl_st rfl ?_; go_big_quiet_step (fail); refine wpQuiet_nil ?_)
          refine Plan.pl_end ?_
          clear y0 hse g3 g4
          go_wp2
          go_roundw
          case rel => exact ⟨k + 1, by omega, by go_num, HK23.out⟩
          case measure => simp [intOf]; omega
        · obtain rfl : k = rs.length := by omega
          have g0 : decide ((rs.length : Int) < (rs.length : Int)) = false := decide_eq_false (by omega)
          have e1 : ((fk : Int) == (fk : Int)) = true := by simp
          have e1' : (fk == fk) = true := by simp
          have e2 : ((rs.length : Int) == (rs.length : Int)) = true := by simp
          have e2' : (rs.length == rs.length) = true := by simp
          go_wp2
          go_ret
          exact ⟨rfl, HK1.out.trans (HP19.out.trans (HK21.out.trans HKR2.out))⟩
end Go.Proofs.YtlhdofkgcbmnnaaGreatDoor

namespace Go.Proofs.YtlhdofkgcbmnnaaGreatDoor
open Go.ChangeShapes Go.WideShapes Go.ChangeAt Go.RowKit Go.Proofs.Heap Go.Proofs.Sch

theorem u64_wf {z : Int} (h : (Lit.int .u64 z).wf = true) : 0 ≤ z ∧ z < 18446744073709551616 := by
  have h : IntKind.u64.min ≤ z ∧ z ≤ IntKind.u64.max := by simpa [Lit.wf] using h
  have h1 : IntKind.u64.min = 0 := by decide
  have h2 : IntKind.u64.max = 18446744073709551615 := by decide
  omega

section
variable {H : Type} {enc : TypeId × Value → H} {W : World}

theorem addr_add (b off i : Nat) : (⟨b, off, none⟩ : Addr).add i = ⟨b, off + i, none⟩ := by unfold Addr.add; split <;> simp_all

/-- A row of things that a law is handed. -/
theorem open_row {α : Type} {z : Nat} {t e : TypeId} (ht : Tryz.prog.underlying t = some (.slice e)) (hsz : Tryz.prog.cellsOf e = z) (at_ : World → Nat → Nat → α → Prop)
    (hel : ∀ (a : Addr) (n : Nat) (cs : List Value) (D : DataW H × List MemPlace), W.cells? 0 a z = some cs → DataW.trod enc Tryz.prog W 0 (fun _ => true) true n e cs = some D → a.spot = none ∧ a.block < W.heap.size ∧ ∃ x : α, at_ W a.block a.off x)
    {fuel : Nat} {cs : List Value} {x : DataW H × List MemPlace} (h : DataW.trod enc Tryz.prog W 0 (fun _ => true) true fuel t cs = some x) :
    ∃ (p : Option Addr) (c : Nat) (l : List α), cs = [.slice p l.length c] ∧ l.length ≤ c ∧ RowP z at_ W W.heap.size p l := by
  rcases Go.Deep.open_slice ht h with ⟨hcs, _⟩ | ⟨a, len, cap, m, n, D, Pl, hcs, _, hl, hm, hz', _, hcell⟩
  · exact ⟨none, 0, [], hcs, Nat.le_refl _, .inl rfl⟩
  · have hmc : m = cap := by simpa using hz'
    subst hmc
    rw [hsz] at hcell
    by_cases hl0 : len = 0
    · subst hl0
      exact ⟨some a, m, [], hcs, Nat.zero_le _, .inl rfl⟩
    · obtain ⟨b, off, spot⟩ := a
      have hblk : spot = none ∧ b < W.heap.size := by
        obtain ⟨cs', hc1, hc2⟩ := hcell 0 (by omega)
        obtain ⟨h1, h2, _⟩ := hel _ _ _ _ hc1 hc2
        refine ⟨?_, by simpa [Addr.add] using h2⟩
        simpa [Addr.add] using h1
      obtain ⟨rfl, hb⟩ := hblk
      have key : ∀ k, k ≤ len → ∃ l : List α, l.length = k ∧ ∀ i y, l[i]? = some y → at_ W b (off + i * z) y := by
        intro k
        induction k with
        | zero => exact fun _ => ⟨[], rfl, fun i y hy => by simp at hy⟩
        | succ k ih =>
          intro hk
          obtain ⟨l, hll, hla⟩ := ih (by omega)
          obtain ⟨cs', hc1, hc2⟩ := hcell k (by omega)
          obtain ⟨_, _, y, hy⟩ := hel _ _ _ _ hc1 hc2
          rw [addr_add] at hy
          refine ⟨l ++ [y], by simp [hll], fun i u hu => ?_⟩
          by_cases hik : i < k
          · rw [List.getElem?_append_left (by omega)] at hu
            exact hla i u hu
          · rw [List.getElem?_append_right (by omega)] at hu
            have : i = k := by
              have := (List.getElem?_eq_some_iff.1 hu).1
              simp at this
              omega
            subst this
            simp [hll] at hu
            subst hu
            exact hy
      obtain ⟨l, hll, hla⟩ := key len (Nat.le_refl _)
      subst hll
      exact ⟨_, m, l, hcs, hl, .inr ⟨b, off, rfl, hb, hla⟩⟩

theorem spot_of {a : Addr} {v : Value} (h : W.cell? (a.add 0) = some v) : a.spot = none ∧ a.block < W.heap.size := by
  obtain ⟨b, off, spot⟩ := a
  have h1 : spot = none := by simpa [Addr.add] using World.cell?_spot h
  subst h1
  rw [addr_add] at h
  exact ⟨rfl, World.block_lt_of_cell? W _ h⟩

end
end Go.Proofs.YtlhdofkgcbmnnaaGreatDoor

namespace Go.Proofs.YtlhdofkgcbmnnaaGreatDoor
open Go.ChangeShapes Go.WideShapes Go.ChangeAt Go.RowKit Go.Proofs.Heap Go.Proofs.Sch Go.Proofs.Wide

section
variable {H : Type} {enc : TypeId × Value → H} {W : World}

def InsFit (w : World) (b o : Nat) (x : Ins) : Prop := InsAt w b o x ∧ x.k.fit

set_option maxRecDepth 100000 in
theorem open_ins (a : Addr) (n : Nat) (cs : List Value) (D : DataW H × List MemPlace) (hc : W.cells? 0 a 6 = some cs) (h : DataW.trod enc Tryz.prog W 0 (fun _ => true) true n 66 cs = some D) :
    a.spot = none ∧ a.block < W.heap.size ∧ ∃ x : Ins, InsFit W a.block a.off x := by
  have hs_bool : Tryz.prog.cellsOf 4 = 1 := by kernel_rfl
  have hs_u64 : Tryz.prog.cellsOf 62 = 1 := by kernel_rfl
  have hs_int : Tryz.prog.cellsOf 3 = 1 := by kernel_rfl
  have hs_k : Tryz.prog.cellsOf 64 = 3 := by kernel_rfl
  obtain ⟨_, hlen, hat⟩ := World.cells?_some hc
  obtain ⟨y0, y1, y2, y3, n', _, _, t0, t1, t2, t3⟩ := Go.Joins.trod_struct4 Tryz.underlying66 h
  match cs, hlen with
  | [u0, u1, u2, u3, u4, u5], _ =>
    have g0 := hat 0 (by omega)
    have g1 := hat 1 (by omega)
    have g2 := hat 2 (by omega)
    have g3 := hat 3 (by omega)
    have g4 := hat 4 (by omega)
    have g5 := hat 5 (by omega)
    simp only [hs_int, hs_k, List.drop, List.take] at t0 t1 t2 t3
    obtain ⟨K0, eK0, _, _⟩ := DataW.trod_int Tryz.underlying3 t0
    obtain ⟨K1, eK1, _, _⟩ := DataW.trod_int Tryz.underlying3 t1
    obtain ⟨K2, eK2, _, _⟩ := DataW.trod_int Tryz.underlying3 t2
    obtain ⟨z0, z1, z2, n2, _, _, r0, r1, r2⟩ := Go.Deep.trod_struct3 Tryz.underlying64 t3
    simp only [hs_bool, hs_u64, List.drop, List.take] at r0 r1 r2
    obtain ⟨K3, eK3, _⟩ := DataW.trod_bool Tryz.underlying4 r0
    obtain ⟨K4, eK4, _, w1⟩ := DataW.trod_int Tryz.underlying62 r1
    obtain ⟨K5, eK5, _, w2⟩ := DataW.trod_int Tryz.underlying62 r2
    simp at eK0 eK1 eK2 eK3 eK4 eK5
    subst eK0; subst eK1; subst eK2; subst eK3; subst eK4; subst eK5
    have b1 := u64_wf w1
    have b2 := u64_wf w2
    obtain ⟨N1, rfl⟩ := Int.eq_ofNat_of_zero_le b1.1
    obtain ⟨N2, rfl⟩ := Int.eq_ofNat_of_zero_le b2.1
    obtain ⟨h1, h2⟩ := spot_of g0
    obtain ⟨b, off, spot⟩ := a
    simp only at h1 h2
    subst h1
    rw [addr_add] at g0 g1 g2 g3 g4 g5
    exact ⟨rfl, h2, ⟨K0, K1, K2, ⟨K3, N1, N2⟩⟩, ⟨g0, g1, g2, g3, g4, g5⟩, by unfold WI.fit; simp only; omega⟩

theorem open_code {fuel : Nat} {cs : List Value} {x : DataW H × List MemPlace} (h : DataW.trod enc Tryz.prog W 0 (fun _ => true) true fuel 68 cs = some x) :
    ∃ (p : Option Addr) (c : Nat) (l : List Ins), cs = [.slice p l.length c] ∧ l.length ≤ c ∧ IP W W.heap.size p l ∧ ∀ y ∈ l, y.k.fit := by
  obtain ⟨p, c, l, h1, h2, h3⟩ := open_row Tryz.underlying68 (by kernel_rfl) InsFit (fun a n cs D hc h => open_ins a n cs D hc h) h
  refine ⟨p, c, l, h1, h2, RowP.imp h3 (Nat.le_refl _) (fun _ _ _ _ h => h.1), fun y hy => ?_⟩
  rcases h3 with rfl | ⟨b, off, _, _, hc⟩
  · cases hy
  · obtain ⟨i, hi⟩ := List.getElem?_of_mem hy
    exact (hc i y hi).2

def ExFit (B : Nat) (w : World) (b o : Nat) (x : List Ins) : Prop := ExAt B w b o x ∧ ∀ y ∈ x, y.k.fit

set_option maxRecDepth 100000 in
theorem open_ex (a : Addr) (n : Nat) (cs : List Value) (D : DataW H × List MemPlace) (hc : W.cells? 0 a 1 = some cs) (h : DataW.trod enc Tryz.prog W 0 (fun _ => true) true n 68 cs = some D) :
    a.spot = none ∧ a.block < W.heap.size ∧ ∃ x : List Ins, ExFit W.heap.size W a.block a.off x := by
  obtain ⟨_, hlen, hat⟩ := World.cells?_some hc
  obtain ⟨p, c, l, e1, hlc, hip, hif⟩ := open_code h
  subst e1
  have g0 := hat 0 (by simp)
  obtain ⟨h1, h2⟩ := spot_of g0
  obtain ⟨b, off, spot⟩ := a
  simp only at h1 h2
  subst h1
  rw [addr_add] at g0
  exact ⟨rfl, h2, l, ⟨p, c, g0, hlc, hip⟩, hif⟩
theorem open_exprs {fuel : Nat} {cs : List Value} {x : DataW H × List MemPlace} (h : DataW.trod enc Tryz.prog W 0 (fun _ => true) true fuel 44 cs = some x) :
    ∃ (p : Option Addr) (c : Nat) (l : List (List Ins)), cs = [.slice p l.length c] ∧ l.length ≤ c ∧ EP W W.heap.size p l ∧ ∀ y ∈ l, ∀ u ∈ y, u.k.fit := by
  obtain ⟨p, c, l, h1, h2, h3⟩ := open_row Tryz.underlying44 (by kernel_rfl) (ExFit W.heap.size) (fun a n cs D hc h => open_ex a n cs D hc h) h
  refine ⟨p, c, l, h1, h2, RowP.imp h3 (Nat.le_refl _) (fun _ _ _ _ h => h.1), fun y hy => ?_⟩
  rcases h3 with rfl | ⟨b, off, _, _, hc⟩
  · cases hy
  · obtain ⟨i, hi⟩ := List.getElem?_of_mem hy
    exact (hc i y hi).2

set_option maxRecDepth 100000 in
/-- A rule that a law is handed. -/
theorem open_rule_of {v : Value} {r : Reach} {b : Nat} (hv : Value.okWide Tryz.prog W r b 46 v) {fuel : Nat} {x : DataW H × List MemPlace} (h : DataW.trod enc Tryz.prog W 0 (fun _ => true) true fuel 46 v.cells.toList = some x) :
    ∃ (c : Rul) (p : Option Addr) (z : Nat), v = .agg #[.int .i64 c.new, .int .i64 c.old, .slice p c.exprs.length z] ∧ c.exprs.length ≤ z ∧ EP W W.heap.size p c.exprs ∧ ∀ y ∈ c.exprs, ∀ u ∈ y, u.k.fit := by
  have hs_int : Tryz.prog.cellsOf 3 = 1 := by kernel_rfl
  have hs_ex : Tryz.prog.cellsOf 44 = 1 := by kernel_rfl
  have hs : Tryz.prog.cellsOf 46 = 3 := by kernel_rfl
  unfold Value.okWide at hv
  rw [Tryz.underlying46] at hv
  obtain ⟨cs, rfl, hsz, _⟩ := hv
  rw [hs] at hsz
  obtain ⟨⟨u0, u1, u2, rfl⟩⟩ : Nonempty (∃ u0 u1 u2, cs = #[u0, u1, u2]) := by
    obtain ⟨l⟩ := cs
    match l, hsz with
    | [u0, u1, u2], _ => exact ⟨u0, u1, u2, rfl⟩
  obtain ⟨y0, y1, y2, n', _, _, t0, t1, t2⟩ := Go.Deep.trod_struct3 Tryz.underlying46 h
  simp only [Value.cells, hs_int, hs_ex, List.drop, List.take] at t0 t1 t2
  obtain ⟨K0, eK0, _, _⟩ := DataW.trod_int Tryz.underlying3 t0
  obtain ⟨K1, eK1, _, _⟩ := DataW.trod_int Tryz.underlying3 t1
  obtain ⟨p, c, l, eK2, hlc, hfp, hft⟩ := open_exprs t2
  simp at eK0 eK1 eK2
  subst eK0; subst eK1; subst eK2
  exact ⟨⟨K0, K1, l⟩, p, c, rfl, hlc, hfp, hft⟩
end
end Go.Proofs.YtlhdofkgcbmnnaaGreatDoor

namespace Go.Proofs.YtlhdofkgcbmnnaaGreatDoor
open Go.ChangeShapes Go.WideShapes Go.ChangeAt Go.RowKit Go.Proofs.Heap Go.Proofs.Sch Go.Proofs.Wide

section
variable {H : Type} {enc : TypeId × Value → H} {W : World}

def RulFit (B : Nat) (w : World) (b o : Nat) (x : Rul) : Prop := RulAt B w b o x ∧ ∀ y ∈ x.exprs, ∀ u ∈ y, u.k.fit
set_option maxRecDepth 100000 in
theorem open_rul (a : Addr) (n : Nat) (cs : List Value) (D : DataW H × List MemPlace) (hc : W.cells? 0 a 3 = some cs) (h : DataW.trod enc Tryz.prog W 0 (fun _ => true) true n 46 cs = some D) :
    a.spot = none ∧ a.block < W.heap.size ∧ ∃ x : Rul, RulFit W.heap.size W a.block a.off x := by
  have hs_int : Tryz.prog.cellsOf 3 = 1 := by kernel_rfl
  have hs_ex : Tryz.prog.cellsOf 44 = 1 := by kernel_rfl
  obtain ⟨_, hlen, hat⟩ := World.cells?_some hc
  obtain ⟨y0, y1, y2, n', _, _, t0, t1, t2⟩ := Go.Deep.trod_struct3 Tryz.underlying46 h
  match cs, hlen with
  | [u0, u1, u2], _ =>
    have g0 := hat 0 (by omega)
    have g1 := hat 1 (by omega)
    have g2 := hat 2 (by omega)
    simp only [hs_int, hs_ex, List.drop, List.take] at t0 t1 t2
    obtain ⟨K0, eK0, _, _⟩ := DataW.trod_int Tryz.underlying3 t0
    obtain ⟨K1, eK1, _, _⟩ := DataW.trod_int Tryz.underlying3 t1
    obtain ⟨p, c, l, eK2, hlc, hfp, hft⟩ := open_exprs t2
    simp at eK0 eK1 eK2
    subst eK0; subst eK1; subst eK2
    obtain ⟨h1, h2⟩ := spot_of g0
    obtain ⟨b, off, spot⟩ := a
    simp only at h1 h2
    subst h1
    rw [addr_add] at g0 g1 g2
    exact ⟨rfl, h2, ⟨K0, K1, l⟩, ⟨g0, g1, p, c, g2, hlc, hfp⟩, hft⟩
theorem open_rules {fuel : Nat} {cs : List Value} {x : DataW H × List MemPlace} (h : DataW.trod enc Tryz.prog W 0 (fun _ => true) true fuel 22 cs = some x) :
    ∃ (p : Option Addr) (c : Nat) (l : List Rul), cs = [.slice p l.length c] ∧ l.length ≤ c ∧ UP W W.heap.size p l ∧ ∀ r ∈ l, ∀ y ∈ r.exprs, ∀ u ∈ y, u.k.fit := by
  obtain ⟨p, c, l, h1, h2, h3⟩ := open_row Tryz.underlying22 (by kernel_rfl) (RulFit W.heap.size) (fun a n cs D hc h => open_rul a n cs D hc h) h
  refine ⟨p, c, l, h1, h2, RowP.imp h3 (Nat.le_refl _) (fun _ _ _ _ h => h.1), fun y hy => ?_⟩
  rcases h3 with rfl | ⟨b, off, _, _, hc⟩
  · cases hy
  · obtain ⟨i, hi⟩ := List.getElem?_of_mem hy
    exact (hc i y hi).2

set_option maxRecDepth 100000 in
/-- A program of rules that a law is handed. -/
theorem open_prog_of {v : Value} {r : Reach} {b : Nat} (hv : Value.okWide Tryz.prog W r b 24 v) {fuel : Nat} {x : DataW H × List MemPlace} (h : DataW.trod enc Tryz.prog W 0 (fun _ => true) true fuel 24 v.cells.toList = some x) :
    ∃ (f t : Int) (l : List Rul) (p : Option Addr) (z : Nat), v = .agg #[.int .i64 f, .int .i64 t, .slice p l.length z] ∧ l.length ≤ z ∧ UP W W.heap.size p l ∧ ∀ r ∈ l, ∀ y ∈ r.exprs, ∀ u ∈ y, u.k.fit := by
  have hs_int : Tryz.prog.cellsOf 3 = 1 := by kernel_rfl
  have hs_ex : Tryz.prog.cellsOf 22 = 1 := by kernel_rfl
  have hs : Tryz.prog.cellsOf 24 = 3 := by kernel_rfl
  unfold Value.okWide at hv
  rw [Tryz.underlying24] at hv
  obtain ⟨cs, rfl, hsz, _⟩ := hv
  rw [hs] at hsz
  obtain ⟨⟨u0, u1, u2, rfl⟩⟩ : Nonempty (∃ u0 u1 u2, cs = #[u0, u1, u2]) := by
    obtain ⟨l⟩ := cs
    match l, hsz with
    | [u0, u1, u2], _ => exact ⟨u0, u1, u2, rfl⟩
  obtain ⟨y0, y1, y2, n', _, _, t0, t1, t2⟩ := Go.Deep.trod_struct3 Tryz.underlying24 h
  simp only [Value.cells, hs_int, hs_ex, List.drop, List.take] at t0 t1 t2
  obtain ⟨K0, eK0, _, _⟩ := DataW.trod_int Tryz.underlying3 t0
  obtain ⟨K1, eK1, _, _⟩ := DataW.trod_int Tryz.underlying3 t1
  obtain ⟨p, c, l, eK2, hlc, hfp, hft⟩ := open_rules t2
  simp at eK0 eK1 eK2
  subst eK0; subst eK1; subst eK2
  exact ⟨K0, K1, l, p, c, rfl, hlc, hfp, hft⟩
end
end Go.Proofs.YtlhdofkgcbmnnaaGreatDoor

namespace Go.Proofs.YtlhdofkgcbmnnaaGreatDoor
open Go.RowKit Go.Proofs.Heap Go.Proofs.Sch Go.Proofs.Wide

theorem rufinds_true (a b : Int) (rs : List Rul) (pa : Option Addr) (ca : Nat) (c d : Int) (us : List Rul) (pb : Option Addr) (cb : Nat) (id : Int) (w : World) (_h1 : rs.length ≤ ca) (hA : UP w w.heap.size pa rs) (hfA : ∀ r ∈ rs, ∀ y ∈ r.exprs, ∀ u ∈ y, u.k.fit) (_h2 : us.length ≤ cb) (hB : UP w w.heap.size pb us) (_hfB : ∀ r ∈ us, ∀ y ∈ r.exprs, ∀ u ∈ y, u.k.fit) :
    Calls Tryz.prog 4 #[.agg #[.int .i64 a, .int .i64 b, .slice pa rs.length ca], .agg #[.int .i64 c, .int .i64 d, .slice pb us.length cb], .int .i64 id] w fun e w' => e = .returned (.bool true) ∧ Below w.heap.size w w' :=
  (ru_finds a b c d rs us pa ca pb cb id w hfA hA hB).mono fun _ _ h => ⟨h.1, h.2.below⟩
end Go.Proofs.YtlhdofkgcbmnnaaGreatDoor
