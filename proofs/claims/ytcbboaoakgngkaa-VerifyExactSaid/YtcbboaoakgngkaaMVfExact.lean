/- What is proved: the law VerifyExact: of every schema, and row of systems, which is the first one that is wrong, and why, are the document's. -/
import Derived.Test.YtcbboaoakgngkaaMVfRefC
import Derived.Test.YtcbboaoakgngkaaMHeap
import Derived.Test.YtcbboaoakgngkaaMLay
import Derived.SizedLaws
namespace Go.Proofs.Ytcbboaoakgngkaa
open Go.RowKit Go.Proofs.Heap Go.Proofs.Sch

/-- A system's error, with the names ahead of it. -/
def dupE (n : ByteArray) (ns : List ByteArray) (z : Nat) : Nat := if memB n ns = true then 1 else z
theorem dupE_nil (n : ByteArray) (z : Nat) : dupE n [] z = z := by
  unfold dupE memB
  rw [List.any_nil, if_neg Bool.false_ne_true]
theorem dupE_same {n t : ByteArray} {ns : List ByteArray} {z : Nat} (h : t = n) : dupE n (ns ++ [t]) z = 1 := by
  unfold dupE memB
  rw [if_pos (by rw [List.any_append, Bool.or_eq_true]; exact .inr (by simp [h]))]
theorem dupE_other {n t : ByteArray} {ns : List ByteArray} {z : Nat} (h : t ≠ n) : dupE n (ns ++ [t]) z = dupE n ns z := by
  unfold dupE memB
  rw [List.any_append, show [t].any (fun m => decide (n = m)) = false by rw [List.any_cons, List.any_nil, decide_eq_false (fun e => h e.symm)]; rfl, Bool.or_false]
theorem allR_step (v : Int) (cs : List Cmp) (k : Nat) (ns : List ByteArray) (s : VSys) (r : List VSys) : allR v cs k ns (s :: r) = if dupE s.name ns (verC v cs s) ≠ 0 then (k, dupE s.name ns (verC v cs s)) else allR v cs (k + 1) (ns ++ [s.name]) r := by
  unfold dupE
  rw [allR]
  by_cases h : memB s.name ns = true
  · rw [if_pos h, if_pos h, if_pos (by omega)]
  · rw [if_neg h, if_neg h]
/-- What is known of the first k systems: the first wrong one, and its error. -/
def BadP (v : Int) (cs : List Cmp) (l : List VSys) (k at_ e : Nat) : Prop :=
  (e = 0 ∧ at_ = 0 ∧ allR v cs 0 [] l = allR v cs k ((l.take k).map (·.name)) (l.drop k)) ∨ (e ≠ 0 ∧ allR v cs 0 [] l = (at_, e))
theorem BadP.start (v : Int) (cs : List Cmp) (l : List VSys) : BadP v cs l 0 0 0 := .inl ⟨rfl, rfl, rfl⟩
theorem BadP.had {v : Int} {cs : List Cmp} {l : List VSys} {k at_ e : Nat} (h : BadP v cs l k at_ e) (he : e ≠ 0) : BadP v cs l (k + 1) at_ e := by
  rcases h with ⟨h, _⟩ | h
  · exact absurd h he
  · exact .inr h
theorem BadP.bad {v : Int} {cs : List Cmp} {l : List VSys} {k at_ : Nat} {s : VSys} (h : BadP v cs l k at_ 0) (hs : l[k]? = some s) (hb : dupE s.name ((l.take k).map (·.name)) (verC v cs s) ≠ 0) : BadP v cs l (k + 1) k (dupE s.name ((l.take k).map (·.name)) (verC v cs s)) := by
  rcases h with ⟨_, _, h⟩ | ⟨h, _⟩
  · refine .inr ⟨hb, ?_⟩
    rw [h, drop_next hs, allR_step, if_pos hb]
  · exact absurd rfl h
theorem BadP.good {v : Int} {cs : List Cmp} {l : List VSys} {k at_ : Nat} {s : VSys} (h : BadP v cs l k at_ 0) (hs : l[k]? = some s) (hb : dupE s.name ((l.take k).map (·.name)) (verC v cs s) = 0) : BadP v cs l (k + 1) at_ 0 := by
  rcases h with ⟨_, h0, h⟩ | ⟨h, _⟩
  · refine .inl ⟨rfl, h0, ?_⟩
    rw [h, drop_next hs, allR_step, if_neg (by rw [hb]; simp), take_next hs, List.map_append]
    rfl
  · exact absurd rfl h
theorem BadP.over {v : Int} {cs : List Cmp} {l : List VSys} {at_ e : Nat} (h : BadP v cs l l.length at_ e) : allR v cs 0 [] l = (at_, e) := by
  rcases h with ⟨rfl, rfl, h⟩ | ⟨_, h⟩
  · rw [h, List.drop_length]; rfl
  · exact h
theorem great_no {cs : List Cmp} {s : VSys} (h : greatV cs s = false) : s.name.size ≤ 100 ∧ s.code.length ≤ 80 := by
  unfold greatV at h
  rw [Bool.or_eq_false_iff] at h
  have := of_decide_eq_false h.1
  omega

set_option maxRecDepth 20000 in
set_option maxHeartbeats 32000000 in
theorem exact_walk (v : Int) (p : Option Addr) (cap : Nat) (cs : List Cmp) (q : Option Addr) (qc : Nat) (l : List VSys) (w : World) (hf : CP w w.heap.size p cs) (hl : Small cs) (hs : SP w w.heap.size q l) :
    Calls Try.prog 4 #[.agg #[.int .i64 v, .slice p cs.length cap], .slice q l.length qc] w fun r w' => r = .returned (.bool true) ∧ Below w.heap.size w w' := by
  obtain ⟨w1, hw1, hb1, hs1, hk1⟩ := box1 w #[.int .i64 v, .slice p cs.length cap] 36
  have HK1 := hid hk1
  have HB1 := hid hb1
  have HCP : Hid (∀ wy, Keep (fun _ => False) w1 wy → CP wy wy.heap.size p cs) := hid (fun wy hk => CP.mono (CP.low hf (Low.keep0 (hk1.trans hk))) (hk1.trans hk).size)
  have HSP : Hid (∀ wy, Keep (fun _ => False) w1 wy → SP wy wy.heap.size q l) := hid (fun wy hk => SP.mono (SP.low hs (Low.keep0 (hk1.trans hk))) (hk1.trans hk).size)
  have HSM := hid hl
  have HS : Hid (∀ wy, Keep (fun _ => False) w1 wy → wy.cell? ⟨w.heap.size, 0, none⟩ = some (.int .i64 v) ∧ wy.cell? ⟨w.heap.size, 1, none⟩ = some (.slice p cs.length cap)) := hid (fun wy hk => ⟨cell_of (hk.get HB1.out id) (by rfl), cell_of (hk.get HB1.out id) (by rfl)⟩)
  clear hb1 hk1 hf hs hl hs1
  go_enter Try.func4, Try.ntmps4
  go_upto_region 1 with fail
  rw [← hw1]
  clear hw1
  generalize w.heap.size = sb at HS ⊢
  go_wp2_with fail
  refine (awake_true _).mono ?_
  rintro r w2 ⟨rfl, hk2⟩
  have HK2 := hid hk2
  clear hk2
  by_cases h20 : 20 < l.length
  · have g0 : (20 : Int) < (l.length : Int) := by omega
    go_wp2
    go_ret
    exact ⟨rfl, (HK1.out.trans HK2.out).below⟩
  have g0 : ¬ (20 : Int) < (l.length : Int) := by omega
  have HB0 := hid (BadP.start v cs l)
  go_wp2_with fail
  clear g0
  go_loopw [5, 6, 7, 8, 9] (fun a e i _ _ wr => ∃ k at_ er : Nat, k ≤ l.length ∧ a = iV at_ ∧ e = iV er ∧ i = iV k ∧ BadP v cs l k at_ er ∧ (∀ s ∈ l.take k, s.name.size ≤ 65536) ∧ Keep (fun _ => False) w1 wr) (fun _ _ i _ _ _ => l.length + 1 - (intOf i).toNat)
  case atStart => exact ⟨0, 0, 0, by omega, rfl, rfl, rfl, HB0.out, by simp, HK2.out⟩
  case round =>
    clear HB0
    obtain ⟨k, at_, er, hk, rfl, rfl, rfl, hbad, hsz, hkr⟩ := hrel
    have HBAD := hid hbad; have HSZ := hid hsz; have HKR := hid hkr
    clear hbad hsz hkr
    by_cases hlt : k < l.length
    rotate_left
    · obtain rfl : k = l.length := by omega
      have HSZA : Hid (∀ s ∈ l, s.name.size ≤ 65536) := hid (fun s hs => HSZ.out s (by rwa [List.take_length]))
      have HOV := hid HBAD.out.over
      have HALL := hid (verify_all v cs p cap l q qc wr HSM.out HSZA.out (HCP.out _ HKR.out) (HSP.out _ HKR.out))
      have HAC : Hid (allC v cs l = if 16 < l.length then (0, 5) else allR v cs 0 [] l) := hid rfl
      generalize allC v cs l = R at *
      obtain ⟨s0, s1⟩ := HS.out _ HKR.out
      have g1 : decide ((l.length : Int) < (l.length : Int)) = false := decide_eq_false (by omega)
      have g2 : decide (l.length < l.length) = false := decide_eq_false (by omega)
      go_wp2_with fail
      refine HALL.out.mono ?_
      rintro r w3 ⟨rfl, hk3⟩
      have HK3 := hid (HKR.out.trans hk3)
      clear hk3 s0 s1 HALL g1 g2
      by_cases h16 : 16 < l.length
      · have g3 : decide ((16 : Int) < (l.length : Int)) = true := decide_eq_true (by omega)
        have g4 : decide (16 < l.length) = true := decide_eq_true h16
        have G : R = (0, 5) := by rw [HAC.out, if_pos h16]
        rw [G]
        clear G HAC
        go_wp2
        go_ret
        exact ⟨rfl, (HK1.out.trans HK3.out).below⟩
      · have g3 : decide ((16 : Int) < (l.length : Int)) = false := decide_eq_false (by omega)
        have g4 : decide (16 < l.length) = false := decide_eq_false h16
        have G : R = (at_, er) := by rw [HAC.out, if_neg h16, HOV.out]
        rw [G]
        clear G HAC
        have g5 : ((at_ : Int) == (at_ : Int)) = true := by simp
        have g6 : ((er : Int) == (er : Int)) = true := by simp
        have g7 : (at_ == at_) = true := by simp
        have g8 : (er == er) = true := by simp
        go_wp2
        go_ret
        exact ⟨rfl, (HK1.out.trans HK3.out).below⟩
    · obtain ⟨s, hsk⟩ : ∃ s, l[k]? = some s := ⟨l[k], by simp [hlt]⟩
      have HSK := hid hsk
      obtain ⟨b, off, pa, ca, pc, cc, rfl, hb, c0, c1, c2, c3, c4, c5, n1, n2, hca, hta, hvc⟩ := SP.at (HSP.out _ (Keep.refl _ _)) hsk
      have HC : Hid (∀ wy, Keep (fun _ => False) w1 wy → wy.cell? ⟨b, off + k * 6, none⟩ = some (.string s.name) ∧ wy.cell? ⟨b, off + k * 6 + 1, none⟩ = some (.int .i64 s.stage) ∧ wy.cell? ⟨b, off + k * 6 + 2, none⟩ = some (.slice pa s.after.length ca) ∧ wy.cell? ⟨b, off + k * 6 + 3, none⟩ = some (.int .u32 (s.all : Int)) ∧ wy.cell? ⟨b, off + k * 6 + 4, none⟩ = some (.int .u32 (s.none : Int)) ∧ wy.cell? ⟨b, off + k * 6 + 5, none⟩ = some (.slice pc s.code.length cc)) := hid (fun wy hk =>
        ⟨((Low.keep0 hk).cell hb).trans c0, ((Low.keep0 hk).cell hb).trans c1, ((Low.keep0 hk).cell hb).trans c2, ((Low.keep0 hk).cell hb).trans c3, ((Low.keep0 hk).cell hb).trans c4, ((Low.keep0 hk).cell hb).trans c5⟩)
      have HTA : Hid (∀ wy, Keep (fun _ => False) w1 wy → TP wy wy.heap.size pa s.after) := hid (fun wy hk => TP.mono (TP.low hta (Low.keep0 hk)) hk.size)
      have HVC : Hid (∀ wy, Keep (fun _ => False) w1 wy → VP wy wy.heap.size pc s.code) := hid (fun wy hk => VP.mono (VP.low hvc (Low.keep0 hk)) hk.size)
      have HNM : Hid (∀ wy, Keep (fun _ => False) w1 wy → ∀ (m : Nat) (u : VSys), l[m]? = some u → wy.cell? ⟨b, off + m * 6, none⟩ = some (.string u.name)) := hid (fun wy hk m u hu => by
        obtain ⟨b', off', _, _, _, _, hp, hb', d0, _⟩ := SP.at (HSP.out _ (Keep.refl _ _)) hu
        injection hp with hp
        injection hp with e1 e2
        subst e1; subst e2
        exact ((Low.keep0 hk).cell hb').trans d0)
      have HN1 := hid n1; have HN2 := hid n2; have HCA := hid hca
      have hin : (0 : Int) ≤ (k : Int) ∧ (k : Int) < (l.length : Int) := ⟨by omega, by omega⟩
      clear hsk hb c0 c1 c2 c3 c4 c5 n1 n2 hca hta hvc
      have HKD := hid HKR.out.drew
      go_upto_region 10 with fail
      obtain ⟨s0, s1⟩ := HS.out _ HKD.out
      obtain ⟨c0, c1, c2, c3, c4, c5⟩ := HC.out _ HKD.out
      refine Plan.wp_region_pl [(false, 0, []), (false, 1, []), (false, 2, []), (false, 3, []), (false, 4, []), (true, 5, [])] (by as_aux_lemma => kernel_rfl) (by as_aux_lemma => kernel_rfl) ?_
      iterate 5 (refine Plan.pl_st rfl ?_; go_big_quiet_step (fail); refine wpQuiet_nil ?_)
      refine Plan.pl_ac rfl ?_
      go_wp2_with fail
      refine (l_great v cs p cap s pa ca pc cc _ (HCP.out _ HKD.out)).mono ?_
      rintro r w3 ⟨rfl, hk3⟩
      have HK3 := hid (HKD.out.trans hk3)
      clear hk3 c0 c1 c2 c3 c4 c5 s0 s1
      go_wp2
      refine Plan.plQ_mk Plan.chk_end ?_
      refine Plan.pl_end ?_
      cases hg : greatV cs s
      rotate_left
      · clear hg
        go_wp2
        go_ret
        exact ⟨rfl, (HK1.out.trans HK3.out).below⟩
      have HGN := hid (great_no hg)
      clear hg
      go_upto_region 12 with fail
      have HK4 := hid HK3.out.drew
      obtain ⟨s0, s1⟩ := HS.out _ HK4.out
      obtain ⟨c0, c1, c2, c3, c4, c5⟩ := HC.out _ HK4.out
      refine Plan.wp_region_pl [(false, 0, []), (false, 1, []), (false, 2, []), (false, 3, []), (false, 4, []), (true, 5, [0]), (true, 6, []), (false, 7, [])] (by as_aux_lemma => kernel_rfl) (by as_aux_lemma => kernel_rfl) ?_
      iterate 5 (refine Plan.pl_st rfl ?_; go_big_quiet_step (fail); refine wpQuiet_nil ?_)
      refine Plan.pl_ac rfl ?_
      go_wp2_with fail
      refine (l_form s pa ca pc cc _ (by have := HGN.out.2; omega) (HVC.out _ HK4.out)).mono ?_
      rintro r w5 ⟨oa, oc, rfl, hvo, hk5⟩
      have HVO := hid hvo
      have HK5 := hid (HK4.out.trans hk5)
      clear hk5 hvo c0 c1 c2 c3 c4 c5 s0 s1
      obtain ⟨s0, s1⟩ := HS.out _ HK5.out
      go_wp2
      refine Plan.plQ_mk ?_ ?_
      · iterate 1 (refine Plan.chk_st rfl ?_ ?_; focus (go_big_quiet_step (fail); exact wpQuiet_nil rfl))
        exact Plan.chk_end
      refine Plan.pl_ac rfl ?_
      go_wp2_with fail
      refine (r_vcheck v cs p cap s pa ca oa oc _ HN1.out HN2.out HSM.out (HCP.out _ HK5.out) (HTA.out _ HK5.out) HVO.out).mono ?_
      rintro r w6 ⟨rfl, hk6⟩
      have HK6 := hid (HK5.out.trans hk6)
      clear hk6 s0 s1 HVO
      go_wp2
      refine Plan.plQ_mk Plan.chk_end ?_
      iterate 1 (refine Plan.pl_st rfl ?_; go_big_quiet_step (fail); refine wpQuiet_nil ?_)
      refine Plan.pl_end ?_
      go_upto_region 13 with fail
      have HK7 := hid HK6.out.drew
      obtain ⟨s0, s1⟩ := HS.out _ HK7.out
      obtain ⟨c0, c1, c2, c3, c4, c5⟩ := HC.out _ HK7.out
      refine Plan.wp_region_pl [(false, 0, []), (false, 1, []), (false, 2, []), (false, 3, []), (false, 4, []), (false, 6, []), (true, 5, [6]), (false, 7, [])] (by as_aux_lemma => kernel_rfl) (by as_aux_lemma => kernel_rfl) ?_
      iterate 6 (refine Plan.pl_st rfl ?_; go_big_quiet_step (fail); refine wpQuiet_nil ?_)
      refine Plan.pl_ac rfl ?_
      go_wp2_with fail
      refine (verify_check v cs p cap s pa ca pc cc _ HN1.out HN2.out HCA.out HSM.out (HCP.out _ HK7.out) (HTA.out _ HK7.out) (HVC.out _ HK7.out)).mono ?_
      rintro r w8 ⟨rfl, hk8⟩
      have HK8 := hid (HK7.out.trans hk8)
      clear hk8 c0 c1 c2 c3 c4 c5 s0 s1
      have HBB := hid (fun h0 : er = 0 => And.intro (BadP.bad (s := s) (h0 ▸ HBAD.out) HSK.out) (BadP.good (s := s) (h0 ▸ HBAD.out) HSK.out))
      have HBH := hid HBAD.out.had
      have HSZ2 : Hid (∀ x ∈ l.take (k + 1), x.name.size ≤ 65536) := hid (fun x hx => by
        rw [take_next HSK.out] at hx
        rcases List.mem_append.1 hx with h | h
        · exact HSZ.out x h
        · rw [List.mem_singleton.1 h]; have := HGN.out.1; omega)
      generalize verC v cs s = z at *
      have g1 : ((z : Int) != (z : Int)) = false := by simp
      have g2 : (z != z) = false := by simp
      go_wp2
      refine Plan.plQ_mk ?_ ?_
      · iterate 1 (refine Plan.chk_st rfl ?_ ?_; focus (go_big_quiet_step (fail); exact wpQuiet_nil rfl))
        exact Plan.chk_end
      iterate 1 (refine Plan.pl_st rfl ?_; go_big_quiet_step (fail); refine wpQuiet_nil ?_)
      refine Plan.pl_end ?_
      have HD0 := hid (dupE_nil s.name z)
      go_wp2_with fail
      clear g1 g2
      go_loopw [8, 9] (fun e i wy => ∃ m : Nat, m ≤ k ∧ i = iV m ∧ e = iV (dupE s.name ((l.take m).map (·.name)) z) ∧ Keep (fun _ => False) w1 wy) (fun _ i _ => k + 1 - (intOf i).toNat)
      case atStart => exact ⟨0, by omega, rfl, by rw [List.take_zero, List.map_nil, HD0.out], HK8.out⟩
      case round =>
        obtain ⟨m, hm, rfl, rfl, hkm⟩ := hrel
        have HKM := hid hkm
        clear hkm
        by_cases hmk : m < k
        · obtain ⟨u, hu⟩ : ∃ u, l[m]? = some u := ⟨l[m], by simp [show m < l.length by omega]⟩
          have hinm : (0 : Int) ≤ (m : Int) ∧ (m : Int) < (l.length : Int) := ⟨by omega, by omega⟩
          have hsq := seq_dec u.name s.name
          have HKX := hid HKM.out.drew
          have d0 := HNM.out _ HKX.out m u hu
          have d1 := HNM.out _ HKX.out k s HSK.out
          have HTN : Hid ((l.take (m + 1)).map (·.name) = (l.take m).map (·.name) ++ [u.name]) := hid (by rw [take_next hu, List.map_append]; rfl)
          generalize (l.take m).map (·.name) = ns at *
          clear hu
          go_upto_region 18 with fail
          refine Plan.wp_region_pl [(false, 0, []), (false, 1, []), (false, 2, []), (false, 3, []), (false, 4, []), (false, 5, []), (false, 6, []), (false, 7, []), (false, 8, []), (false, 9, []), (false, 10, [])] (by as_aux_lemma => kernel_rfl) (by as_aux_lemma => kernel_rfl) ?_
          cases hd : decide (u.name = s.name)
          · have G := hid (dupE_other (ns := ns) (z := z) (of_decide_eq_false hd))
            rw [hd] at hsq
            clear hd
            iterate 11 (refine Plan.pl_st rfl ?_; go_big_quiet_step (fail); refine wpQuiet_nil ?_)
            refine Plan.pl_end ?_
            go_wp2
            go_roundw
            case rel => exact ⟨m + 1, by omega, by go_num, by rw [HTN.out, G.out], HKX.out⟩
            case measure => simp [intOf]; omega
          · have G := hid (dupE_same (ns := ns) (z := z) (of_decide_eq_true hd))
            rw [hd] at hsq
            clear hd
            iterate 11 (refine Plan.pl_st rfl ?_; go_big_quiet_step (fail); refine wpQuiet_nil ?_)
            refine Plan.pl_end ?_
            go_wp2
            go_roundw
            case rel => exact ⟨m + 1, by omega, by go_num, by rw [HTN.out, G.out]; rfl, HKX.out⟩
            case measure => simp [intOf]; omega
        · obtain rfl : m = k := by omega
          generalize dupE s.name ((l.take m).map (·.name)) z = ek at *
          have g1 : decide ((m : Int) < (m : Int)) = false := decide_eq_false (by omega)
          have g2 : decide (m < m) = false := decide_eq_false (by omega)
          by_cases her : er = 0
          rotate_left
          · have g3 : ((er : Int) == 0) = false := beq_eq_false_iff_ne.2 (by omega)
            have g4 : (er == 0) = false := beq_eq_false_iff_ne.2 her
            have G := hid (HBH.out her)
            go_wp2
            go_roundw
            case rel => exact ⟨m + 1, at_, er, by omega, rfl, rfl, by go_num, G.out, HSZ2.out, HKM.out⟩
            case measure => simp [intOf]; omega
          · have HB2 := hid (HBB.out her)
            subst her
            by_cases hek : ek = 0
            · have G := hid (HB2.out.2 hek)
              subst hek
              go_wp2
              go_roundw
              case rel => exact ⟨m + 1, at_, 0, by omega, rfl, rfl, by go_num, G.out, HSZ2.out, HKM.out⟩
              case measure => simp [intOf]; omega
            · have G := hid (HB2.out.1 hek)
              have g5 : ((ek : Int) != 0) = true := by rw [bne, beq_eq_false_iff_ne.2 (show (ek : Int) ≠ 0 by omega)]; rfl
              have g6 : (ek != 0) = true := by rw [bne, beq_eq_false_iff_ne.2 hek]; rfl
              go_wp2
              go_roundw
              case rel => exact ⟨m + 1, m, ek, by omega, rfl, rfl, by go_num, G.out, HSZ2.out, HKM.out⟩
              case measure => simp [intOf]; omega
end Go.Proofs.Ytcbboaoakgngkaa

namespace Go.Proofs.Ytcbboaoakgngkaa
open Go.ChangeShapes Go.WideShapes Go.ChangeAt Go.RowKit Go.Proofs.Heap Go.Proofs.Sch

section
variable {H : Type} {enc : TypeId × Value → H} {W : World}

/-- No weight is past what an argument may have. -/
def SZ (P : Program) (t : TypeId) (D : DataW H) : Prop := ∀ n ∈ D.weights P t, n ≤ reachBytes

theorem sz_all {P : Program} {e : TypeId} : ∀ {l : List (DataW H)} {d : DataW H}, d ∈ l → ∀ n ∈ d.weights P e, n ∈ DataW.weightsAll P e l
  | [], _, h, _, _ => by simp at h
  | x :: l, d, h, n, hn => by
    simp only [DataW.weightsAll, List.mem_append]
    rcases List.mem_cons.1 h with rfl | h
    · exact .inl hn
    · exact .inr (sz_all h n hn)
theorem SZ.elem {P : Program} {t e : TypeId} {l s : List (DataW H)} (h : SZ P t (.slice l s)) (ht : P.underlying t = some (.slice e)) {d : DataW H} (hd : d ∈ l) : SZ P e d := fun n hn => h n (by
  simp only [DataW.weights, ht, List.mem_cons, List.mem_append]
  exact .inr (.inl (sz_all hd n hn)))
theorem SZ.len {P : Program} {t e : TypeId} {l s : List (DataW H)} (h : SZ P t (.slice l s)) (ht : P.underlying t = some (.slice e)) : l.length * P.bytesOf e ≤ reachBytes := by
  have := h ((l.length + s.length) * P.bytesOf e) (by simp [DataW.weights, ht])
  rw [Nat.add_mul] at this
  omega
theorem SZ.part {P : Program} {t : TypeId} {fs : Array Field} {l : List (DataW H)} (h : SZ P t (.agg l)) (ht : P.underlying t = some (.struct fs)) {j : Nat} {u : TypeId} {d : DataW H} (hu : (fs.toList.map (·.type))[j]? = some u) (hd : l[j]? = some d) : SZ P u d := fun n hn => h n (by
  simp only [DataW.weights, ht]
  exact DataW.weights_mem_each hu hd n hn)
theorem SZ.arg {P : Program} {ts : List TypeId} {ds : List (DataW H)} (h : (DataW.weightsEach P ts ds).all (· ≤ reachBytes) = true) {j : Nat} {t : TypeId} {d : DataW H} (ht : ts[j]? = some t) (hd : ds[j]? = some d) : SZ P t d := fun n hn => by
  have := List.all_eq_true.1 h _ (DataW.weights_mem_each ht hd n hn)
  simpa using this

/-- A row of things that a law is handed. -/
theorem open_row_s {α : Type} {z : Nat} {t e : TypeId} (ht : Try.prog.underlying t = some (.slice e)) (hsz : Try.prog.cellsOf e = z) (at_ : World → Nat → Nat → α → Prop) (Q : α → Prop)
    (hel : ∀ (a : Addr) (n : Nat) (cs : List Value) (D : DataW H × List MemPlace), W.cells? 0 a z = some cs → DataW.trod enc Try.prog W 0 (fun _ => true) true n e cs = some D → SZ Try.prog e D.1 → a.spot = none ∧ a.block < W.heap.size ∧ ∃ x : α, at_ W a.block a.off x ∧ Q x)
    {fuel : Nat} {cs : List Value} {x : DataW H × List MemPlace} (h : DataW.trod enc Try.prog W 0 (fun _ => true) true fuel t cs = some x) (hx : SZ Try.prog t x.1) :
    ∃ (p : Option Addr) (c : Nat) (l : List α), cs = [.slice p l.length c] ∧ l.length ≤ c ∧ RowP z at_ W W.heap.size p l ∧ (∀ y ∈ l, Q y) ∧ l.length * Try.prog.bytesOf e ≤ reachBytes := by
  rcases Go.Deep.open_slice ht h with ⟨hcs, _⟩ | ⟨a, len, cap, m, n, D, Pl, hcs, _, hl, hm, hz', hxe, hcell⟩
  · exact ⟨none, 0, [], hcs, Nat.le_refl _, .inl rfl, fun y hy => by simp at hy, by simp⟩
  · have hmc : m = cap := by simpa using hz'
    subst hmc
    rw [hsz] at hcell
    rw [hxe] at hx
    have hlen := hx.len ht
    have hpart : ∀ i, i < len → SZ Try.prog e (D i) := fun i hi => hx.elem ht (List.mem_map.2 ⟨i, List.mem_range.2 hi, rfl⟩)
    simp only [List.length_map, List.length_range] at hlen
    by_cases hl0 : len = 0
    · subst hl0
      exact ⟨some a, m, [], hcs, Nat.zero_le _, .inl rfl, fun y hy => by simp at hy, by simp⟩
    · obtain ⟨b, off, spot⟩ := a
      have hblk : spot = none ∧ b < W.heap.size := by
        obtain ⟨cs', hc1, hc2⟩ := hcell 0 (by omega)
        obtain ⟨h1, h2, _⟩ := hel _ _ _ _ hc1 hc2 (hpart 0 (by omega))
        refine ⟨?_, by simpa [Addr.add] using h2⟩
        simpa [Addr.add] using h1
      obtain ⟨rfl, hb⟩ := hblk
      have key : ∀ k, k ≤ len → ∃ l : List α, l.length = k ∧ (∀ i y, l[i]? = some y → at_ W b (off + i * z) y) ∧ ∀ y ∈ l, Q y := by
        intro k
        induction k with
        | zero => exact fun _ => ⟨[], rfl, fun i y hy => by simp at hy, fun y hy => by simp at hy⟩
        | succ k ih =>
          intro hk
          obtain ⟨l, hll, hla, hlq⟩ := ih (by omega)
          obtain ⟨cs', hc1, hc2⟩ := hcell k (by omega)
          obtain ⟨_, _, y, hy, hq⟩ := hel _ _ _ _ hc1 hc2 (hpart k (by omega))
          rw [addr_add] at hy
          refine ⟨l ++ [y], by simp [hll], fun i u hu => ?_, fun u hu => ?_⟩
          · by_cases hik : i < k
            · rw [List.getElem?_append_left (by omega)] at hu
              exact hla i u hu
            · rw [List.getElem?_append_right (by omega)] at hu
              have : i = k := by
                have := (List.getElem?_eq_some_iff.1 hu).1
                simp at this
                omega
              subst this
              simp [hll] at hu
              subst hu
              exact hy
          · rcases List.mem_append.1 hu with hu | hu
            · exact hlq u hu
            · rw [List.mem_singleton.1 hu]; exact hq
      obtain ⟨l, hll, hla, hlq⟩ := key len (Nat.le_refl _)
      subst hll
      exact ⟨_, m, l, hcs, hl, .inr ⟨b, off, rfl, hb, hla⟩, hlq, hlen⟩

theorem bytes_field : Try.prog.bytesOf 69 = 32 := by kernel_rfl
theorem bytes_comp : Try.prog.bytesOf 72 = 48 := by kernel_rfl
theorem reach_eq : reachBytes = 140737488351232 := rfl

set_option maxRecDepth 100000 in
theorem open_fields_s {fuel : Nat} {cs : List Value} {x : DataW H × List MemPlace} (h : DataW.trod enc Try.prog W 0 (fun _ => true) true fuel 70 cs = some x) (hx : SZ Try.prog 70 x.1) :
    ∃ (p : Option Addr) (c : Nat) (l : List Fld), cs = [.slice p l.length c] ∧ l.length ≤ c ∧ FP W W.heap.size p l ∧ l.length ≤ 4398046510976 := by
  obtain ⟨p, c, l, h1, h2, h3, _, h4⟩ := open_row_s Try.underlying70 (by kernel_rfl) FldAt (fun _ => True) (fun a n cs D hc h _ => by obtain ⟨a1, a2, x, a3⟩ := open_field a n cs D hc h; exact ⟨a1, a2, x, a3, trivial⟩) h hx
  rw [bytes_field, reach_eq] at h4
  exact ⟨p, c, l, h1, h2, h3, by omega⟩

def CmpS (c : Cmp) : Prop := c.fs.length ≤ 4398046510976
set_option maxRecDepth 100000 in
theorem open_comp_s (a : Addr) (n : Nat) (cs : List Value) (D : DataW H × List MemPlace) (hc : W.cells? 0 a 3 = some cs) (h : DataW.trod enc Try.prog W 0 (fun _ => true) true n 72 cs = some D) (hx : SZ Try.prog 72 D.1) :
    a.spot = none ∧ a.block < W.heap.size ∧ ∃ x : Cmp, CmpAt W.heap.size W a.block a.off x ∧ CmpS x := by
  have hs_int : Try.prog.cellsOf 3 = 1 := by kernel_rfl
  have hs_string : Try.prog.cellsOf 9 = 1 := by kernel_rfl
  have hs_fields : Try.prog.cellsOf 70 = 1 := by kernel_rfl
  obtain ⟨_, hlen, hat⟩ := World.cells?_some hc
  obtain ⟨y0, y1, y2, n', hD, _, t0, t1, t2⟩ := Go.Deep.trod_struct3 Try.underlying72 h
  rw [hD] at hx
  have hx2 : SZ Try.prog 70 y2.1 := hx.part Try.underlying72 (j := 2) rfl rfl
  match cs, hlen with
  | [u0, u1, u2], _ =>
    have g0 := hat 0 (by omega)
    have g1 := hat 1 (by omega)
    have g2 := hat 2 (by omega)
    simp only [hs_int, hs_string, hs_fields, List.drop, List.take] at t0 t1 t2
    obtain ⟨K0, eK0, _, _⟩ := DataW.trod_int Try.underlying3 t0
    obtain ⟨K1, eK1, _, _⟩ := DataW.trod_string Try.underlying9 t1
    obtain ⟨p, c, l, eK2, hlc, hfp, hll⟩ := open_fields_s t2 hx2
    simp at eK0 eK1 eK2
    subst eK0; subst eK1; subst eK2
    obtain ⟨h1, h2⟩ := spot_of g0
    obtain ⟨b, off, spot⟩ := a
    simp only at h1 h2
    subst h1
    rw [addr_add] at g0 g1 g2
    exact ⟨rfl, h2, ⟨K0, K1, l⟩, ⟨g0, g1, p, c, g2, hlc, hfp⟩, hll⟩

set_option maxRecDepth 100000 in
/-- A schema that a law is handed. -/
theorem open_schema_s {v : Value} {r : Reach} {b : Nat} (hv : Value.okWide Try.prog W r b 36 v) {fuel : Nat} {x : DataW H × List MemPlace} (h : DataW.trod enc Try.prog W 0 (fun _ => true) true fuel 36 v.cells.toList = some x) (hx : SZ Try.prog 36 x.1) :
    ∃ (k : Int) (p : Option Addr) (c : Nat) (l : List Cmp), v = .agg #[.int .i64 k, .slice p l.length c] ∧ l.length ≤ c ∧ CP W W.heap.size p l ∧ Small l := by
  have hs_int : Try.prog.cellsOf 3 = 1 := by kernel_rfl
  have hs_comps : Try.prog.cellsOf 34 = 1 := by kernel_rfl
  have hs : Try.prog.cellsOf 36 = 2 := by kernel_rfl
  unfold Value.okWide at hv
  rw [Try.underlying36] at hv
  obtain ⟨cs, rfl, hsz, _⟩ := hv
  rw [hs] at hsz
  obtain ⟨⟨u0, u1, rfl⟩⟩ : Nonempty (∃ u0 u1, cs = #[u0, u1]) := by
    obtain ⟨l⟩ := cs
    match l, hsz with
    | [u0, u1], _ => exact ⟨u0, u1, rfl⟩
  obtain ⟨y0, y1, n', hD, _, t0, t1⟩ := trod_struct2 Try.underlying36 h
  rw [hD] at hx
  have hx1 : SZ Try.prog 34 y1.1 := hx.part Try.underlying36 (j := 1) rfl rfl
  simp only [Value.cells, hs_int, hs_comps, List.drop, List.take] at t0 t1
  obtain ⟨K0, eK0, _, _⟩ := DataW.trod_int Try.underlying3 t0
  obtain ⟨p, c, l, eK1, hlc, hcp, hq, hb⟩ := open_row_s Try.underlying34 (by kernel_rfl) (CmpAt W.heap.size) CmpS (fun a n cs D hc h hx => open_comp_s a n cs D hc h hx) t1 hx1
  simp at eK0 eK1
  subst eK0; subst eK1
  rw [bytes_comp, reach_eq] at hb
  exact ⟨K0, p, c, l, rfl, hlc, hcp, ⟨by omega, fun y hy => by have : y.fs.length ≤ 4398046510976 := hq y hy; omega⟩⟩
end
end Go.Proofs.Ytcbboaoakgngkaa
