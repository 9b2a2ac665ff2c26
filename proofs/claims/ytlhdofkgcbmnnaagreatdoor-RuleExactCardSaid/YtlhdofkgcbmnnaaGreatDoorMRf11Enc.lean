/- What is proved: what the reference's Encode of a formula answers: the program's bytes. -/
import Derived.Test.YtlhdofkgcbmnnaaGreatDoorMTakes
import Derived.Test.YtlhdofkgcbmnnaaGreatDoorMExDecLaw
namespace Go.Proofs.YtlhdofkgcbmnnaaGreatDoor
open Go.RowKit Go.Proofs.Heap Go.Proofs.Sch Go.Proofs.Wide

set_option maxRecDepth 20000 in
set_option maxHeartbeats 8000000 in
theorem r_word11 (n : Nat) (hn : n < 18446744073709551616) (w : World) :
    Calls Tryz.prog 49 #[.int .u64 (n : Int)] w fun r w' => r = .returned (.string (bsB (leL 8 n))) ∧ Keep (fun _ => False) w w' := by
  obtain ⟨i0, hi0, hz0, hz1, hz2⟩ := info_parts' info_u8L
  obtain ⟨w1, hw1, hb1, hs1, hk1⟩ := box1 w #[] 5
  have hm0 : w1.ownsRow w.heap.size 5 1 (.slice (some ⟨w.heap.size, 0, none⟩) 0 0) 0 ((leL 0 n).map byteV) := by
    rw [hw1]; exact World.ownsRow_made w #[] 0 (Nat.le_refl _) (by unfold maxLen; omega) (by simp)
  have HM0 := hid hm0; have HK1 := hid hk1
  clear hm0 hk1 hb1 hs1
  go_enter Tryz.func49, Tryz.ntmps49
  go_upto_region 2 with fail
  rw [← hw1]
  clear hw1
  go_wp2_with fail
  go_loopw [0, 3, 4] (fun m o i wr => ∃ (k : Nat) (a : Option Addr) (c : Nat), k ≤ 8 ∧ i = iV k ∧ m = .int .u64 ((n / 256 ^ k : Nat) : Int) ∧ o = .slice a k c ∧ wr.ownsRow w.heap.size 5 1 (.slice a k c) k ((leL k n).map byteV) ∧ Keep (fun _ => False) w wr) (fun _ _ i _ => 8 + 1 - (RowKit.intOf i).toNat)
  case atStart => exact ⟨0, _, _, Nat.zero_le _, rfl, by simp, rfl, HM0.out, HK1.out⟩
  case round =>
    obtain ⟨k, a, c, hk, rfl, rfl, rfl, how, hkr⟩ := hrel
    have HO := hid how; have HKR := hid hkr
    clear how hkr
    by_cases hlt : k < 8
    · have HNX : Hid ((leL (k + 1) n).map byteV = (leL k n).map byteV ++ [.int .u8 ((n / 256 ^ k % 256 : Nat) : Int)]) := hid (by
        rw [leL_next, List.map_append]
        show _ ++ [byteV (UInt8.ofNat (n / 256 ^ k))] = _
        unfold byteV
        rw [UInt8.toNat_ofNat'])
      have HDV : Hid (n / 256 ^ (k + 1) = n / 256 ^ k / 256) := hid (by rw [Nat.pow_succ, Nat.div_div_eq_div_mul])
      have hml : n / 256 ^ k < 18446744073709551616 := Nat.lt_of_le_of_lt (Nat.div_le_self _ _) hn
      generalize n / 256 ^ k = m at *
      generalize (leL k n).map byteV = us at *
      obtain ⟨d, hd⟩ : ∃ d : Nat, m % 256 = d := ⟨_, rfl⟩
      obtain ⟨q, hq⟩ : ∃ q : Nat, m / 256 = q := ⟨_, rfl⟩
      have hd2 : d < 256 := by omega
      have hq2 : q < 18446744073709551616 := by omega
      have hrem : (m : Int).tmod 256 = (d : Int) := by rw [Int.tmod_eq_emod_of_nonneg (by omega)]; omega
      have hquo : (m : Int).tdiv 256 = (q : Int) := by rw [Int.tdiv_eq_ediv_of_nonneg (by omega)]; omega
      rw [hd] at HNX; rw [hq] at HDV
      clear hd hq
      have hltI : (k : Int) < 8 := by omega
      go_wp2_with (at_builtin; go_loud (refine wpList_append_rd rfl (.tmp 10) (.tmp 14) _ rfl w.heap.size _ i0 _ 1 1 Tryz.underlying59 hi0 hz0 hz1 hz2 rfl (by decide) _ k _ (by rfl) (HO.out.alloc _) _ 1 [.int .u8 (d : Int)] (by rfl) (rd_block (heap_alloc_new wr _) (by simp) (by simp [Value.oneCell'])) (by unfold maxLen; omega) (by omega) (by have := HKR.out.size; simp; omega) ?_); go_loud (intro v' w8 hown6 hgrow6 hat6 hn6; obtain ⟨vq, vd, rfl⟩ := owns_val hown6; have HO8 := hid hown6; have HK8 := hid ((HKR.out.alloc _).grown hgrow6 (fun k hk => .inl (HO.out.lt k hk).1)); clear hown6 hgrow6 hat6 hn6))
      go_wp2
      go_roundw
      case rel => exact ⟨k + 1, vq, vd, by omega, by go_num, by rw [HDV.out], rfl, by rw [HNX.out]; exact HO8.out, HK8.out⟩
      case measure => simp [RowKit.intOf]; omega
    · obtain rfl : k = 8 := by omega
      have hcv := run_row_string (leL_len 8 n) HO.out
      go_wp2
      go_ret
      exact ⟨rfl, HKR.out⟩

theorem expL_size (code : List Ins) (h : code.length ≤ 64) (k : Nat) : (bsB (leL 1 code.length ++ (code.take k).flatMap insL)).size ≤ 1153 := by
  rw [bs_size, List.length_append, leL_len]
  have h1 := flat_le insL 18 (l := code.take k) (fun g _ => insL_len g)
  rw [List.length_take] at h1
  have : min k code.length * 18 ≤ 64 * 18 := Nat.mul_le_mul_right _ (by omega)
  omega

set_option maxRecDepth 20000 in
set_option maxHeartbeats 32000000 in
theorem r_encode11 (code : List Ins) (p : Option Addr) (cap : Nat) (w : World) (hfit : ∀ x ∈ code, x.k.fit) (hf : IP w w.heap.size p code) :
    Calls Tryz.prog 24 #[.slice p code.length cap] w fun r w' => r = .returned (.tuple #[.string (expS code), iV (encC code)]) ∧ Keep (fun _ => False) w w' := by
  have HX := hid hfit; have HF := hid hf
  clear hfit hf
  go_enter Tryz.func24, Tryz.ntmps24
  go_wp2_with fail
  refine (rf_check code p cap _ HX.out HF.out).mono ?_
  rintro r w1 ⟨rfl, hk1⟩
  have HK1 := hid hk1
  have HF1 := hid (IP.mono (IP.low HF.out (Low.keep0 hk1)) hk1.size)
  clear hk1
  by_cases hz : exprC code = 0
  rotate_left
  · as_aux_lemma =>
    have G : Hid (encC code = exprC code) := hid (by unfold encC; rw [if_neg hz])
    have GS : Hid (expS code = ⟨#[]⟩) := hid (if_neg (by rw [G.out]; exact hz))
    generalize exprC code = e at *
    have g1 : ((e : Int) != 0) = true := by simp only [bne, beq_eq_false_iff_ne.2 (show (e : Int) ≠ 0 by omega)]; rfl
    have g2 : (e != 0) = true := by simp only [bne, beq_eq_false_iff_ne.2 hz]; rfl
    go_wp2
    go_ret2
    exact ⟨by rw [G.out, GS.out]; rfl, HK1.out⟩
  have HALL := hid (exprC_all hz)
  have HBAD : Hid (∀ x ∈ code, plainB x = false → encC code = 1 ∧ expS code = ⟨#[]⟩) := hid (fun x hx h => by
    have e : encC code = 1 := by
      unfold encC
      rw [if_pos hz, if_neg (fun hh => by rw [hh x hx] at h; cases h)]
    exact ⟨e, if_neg (by rw [e]; simp)⟩)
  have HGOOD : Hid ((∀ x ∈ code, plainB x = true) → encC code = 0 ∧ expS code = bsB (expL code)) := hid (fun h => by
    have e := encC_of hz h
    exact ⟨e, if_pos e⟩)
  have HSZ := hid (fun k => expL_size code (exprC_all hz).2.1 k)
  rw [hz]
  clear hz
  have hcl : code.length ≤ 64 := HALL.out.2.1
  have u0 := wrap8 (show code.length < 256 by omega)
  obtain ⟨w2, hw2, hb2, hs2, hk2⟩ := box1 w1 #[.int .u8 (code.length : Int)] 5
  have hcv := one_bs w1 code.length (by omega)
  have HK2 := hid (HK1.out.trans hk2)
  have HF2 := hid (IP.mono (IP.low HF1.out (Low.keep0 hk2)) hk2.size)
  clear hb2 hs2 hk2
  go_upto_region 5 with fail
  rw [← hw2]
  clear hw2 hcv u0
  have hcl2 : (code.length : Int) ≤ 64 := by omega
  go_wp2_with fail
  go_loopw [5, 6, 7, 8] (fun s i _ _ wr => ∃ k : Nat, k ≤ code.length ∧ i = iV k ∧ s = .string (bsB (leL 1 code.length ++ (code.take k).flatMap insL)) ∧ (∀ x ∈ code.take k, plainB x = true) ∧ Keep (fun _ => False) w2 wr) (fun _ i _ _ _ => code.length + 1 - (RowKit.intOf i).toNat)
  case atStart => exact ⟨0, Nat.zero_le _, rfl, by simp, (fun x hx => by simp at hx), Keep.refl _ _⟩
  case round =>
    obtain ⟨k, hk, rfl, rfl, hpl, hkr⟩ := hrel
    have HPL := hid hpl; have HKR := hid (HK2.out.trans hkr); have HKL := hid hkr
    clear hpl hkr
    by_cases hlt : k < code.length
    · obtain ⟨x, hxk⟩ : ∃ x, code[k]? = some x := ⟨code[k], by simp [hlt]⟩
      have HNX := hid (flat_next insL hxk)
      have HIB := hid (HALL.out.2.2 x (List.mem_of_getElem? hxk))
      have HXF := hid (HX.out x (List.mem_of_getElem? hxk))
      have HBX := hid (HBAD.out x (List.mem_of_getElem? hxk))
      have HPN : Hid (plainB x = true → ∀ y ∈ code.take (k + 1), plainB y = true) := hid (fun h y hy => by
        rw [take_next hxk] at hy
        rcases List.mem_append.1 hy with hy | hy
        · exact HPL.out y hy
        · rw [List.mem_singleton.1 hy]; exact h)
      obtain ⟨b, off, rfl, hb, c0, c1, c2, c3, c4, c5⟩ := IP.at (IP.low HF2.out (Low.keep0 HKL.out)) hxk
      have hin : (0 : Int) ≤ (k : Int) ∧ (k : Int) < (code.length : Int) := ⟨by omega, by omega⟩
      clear hxk hb
      have hop := insB_op HIB.out
      obtain ⟨ha, hbb, _⟩ := insB_a HIB.out
      obtain ⟨op, xa, xb, ⟨kn, kh, kl⟩⟩ := x
      simp only at c0 c1 c2 c3 c4 c5 hop ha hbb
      obtain ⟨on, rfl⟩ := Int.eq_ofNat_of_zero_le (a := op) (by omega)
      obtain ⟨an, rfl⟩ := Int.eq_ofNat_of_zero_le ha.1
      obtain ⟨bn, rfl⟩ := Int.eq_ofNat_of_zero_le hbb.1
      have lo0 : on < 256 := by omega
      have la0 : an < 256 := by omega
      have lb0 : bn < 256 := by omega
      have u0 := wrap8 lo0
      have u1 := wrap8 la0
      have u2 := wrap8 lb0
      have UO : Hid (u64N (on : Int) = on) := hid (u64N_nat (by omega))
      have UA : Hid (u64N (an : Int) = an) := hid (u64N_nat (by omega))
      have UB : Hid (u64N (bn : Int) = bn) := hid (u64N_nat (by omega))
      have HFT : Hid (kh < 18446744073709551616 ∧ kl < 18446744073709551616) := hid HXF.out
      obtain ⟨w5, hw5, hb5, hs5, hk5⟩ := box1 wr #[.int .i64 (on : Int), .int .i64 (an : Int), .int .i64 (bn : Int), .bool kn, .int .u64 (kh : Int), .int .u64 (kl : Int)] 70
      have HK5 := hid (HKR.out.trans hk5)
      have HK5L := hid (HKL.out.trans hk5)
      clear hs5 hk5 hop ha hbb
      go_upto_region 9 with fail
      rw [← hw5]
      clear hw5 c0 c1 c2 c3 c4 c5
      obtain ⟨sb, hsb⟩ : ∃ sb, wr.heap.size = sb := ⟨_, rfl⟩
      rw [hsb] at hb5 ⊢
      clear hsb
      have HC : Hid (∀ wy, Keep (fun _ => False) w5 wy → wy.heap[sb]? = some (.cells #[.int .i64 (on : Int), .int .i64 (an : Int), .int .i64 (bn : Int), .bool kn, .int .u64 (kh : Int), .int .u64 (kl : Int)] 70 (0, 0))) := hid (fun wy hk => hk.get hb5 id)
      have s0 := cell_of hb5 (i := 0) (by rfl)
      have s1 := cell_of hb5 (i := 1) (by rfl)
      have s2 := cell_of hb5 (i := 2) (by rfl)
      have s3 := cell_of hb5 (i := 3) (by rfl)
      have s4 := cell_of hb5 (i := 4) (by rfl)
      have s5 := cell_of hb5 (i := 5) (by rfl)
      obtain ⟨sk, hsk⟩ : ∃ sk, bsB (leL 1 code.length ++ (code.take k).flatMap insL) = sk := ⟨_, rfl⟩
      have HSK := hid hsk
      have hsz : sk.size ≤ 1153 := by rw [← hsk]; exact HSZ.out k
      rw [hsk]
      clear hsk hb5
      obtain ⟨ob, hob⟩ : ∃ ob, bsB (leL 1 on) = ob := ⟨_, rfl⟩
      have HOB := hid hob
      have hos : ob.size ≤ 1 := by rw [← hob, bs_size, leL_len]; exact Nat.le_refl _
      have y1 : ¬ (9223372036854775807 < sk.size + ob.size) := by omega
      obtain ⟨w6, hw6, hb6, hs6, hk6⟩ := box1 w5 #[.int .u8 (on : Int)] 5
      have hcv := one_bs w5 on lo0
      rw [hob] at hcv
      have HK6 := hid (HK5.out.trans hk6)
      have HK6L := hid (HK5L.out.trans hk6)
      have HC6 := hid (HC.out w6 hk6)
      clear hob hb6 hs6 hk6
      have e6 := hw6
      by_cases h1 : on = 1
      · have o1 : ((on : Int) != 1) = false := by rw [bne_eq_false_iff_eq]; omega
        have o1n : (on != 1) = false := by rw [bne_eq_false_iff_eq]; omega
        have o2 : ((on : Int) != 2) = true := by rw [bne_iff_ne]; omega
        have o2n : (on != 2) = true := by rw [bne_iff_ne]; omega
        have o3 : ((on : Int) != 3) = true := by rw [bne_iff_ne]; omega
        have o3n : (on != 3) = true := by rw [bne_iff_ne]; omega
        have HO := hid h1
        clear h1
        by_cases h1b : bn = 0
        rotate_left
        · have gb : ((bn : Int) != 0) = true := by rw [bne_iff_ne]; omega
          have gbn : (bn != 0) = true := by rw [bne_iff_ne]; omega
          as_aux_lemma =>
          have G := hid (HBX.out (by
            unfold plainB
            simp only
            rw [if_pos (by have := HO.out; omega), decide_eq_false (show ¬ (bn : Int) = 0 by omega)]; simp))
          go_wp2
          go_ret2
          exact ⟨by rw [G.out.1, G.out.2]; rfl, HK5.out⟩
        have gb : ((bn : Int) != 0) = false := by rw [bne_eq_false_iff_eq]; omega
        have gbn : (bn != 0) = false := by rw [bne_eq_false_iff_eq]; omega
        have Hh1b := hid h1b
        clear h1b
        by_cases h1a : an = 0
        rotate_left
        · have ga : ((an : Int) != 0) = true := by rw [bne_iff_ne]; omega
          have gan : (an != 0) = true := by rw [bne_iff_ne]; omega
          as_aux_lemma =>
          have G := hid (HBX.out (by
            unfold plainB
            simp only
            rw [if_pos (by have := HO.out; omega), decide_eq_false (show ¬ (an : Int) = 0 by omega)]; simp))
          go_wp2
          go_ret2
          exact ⟨by rw [G.out.1, G.out.2]; rfl, HK5.out⟩
        have ga : ((an : Int) != 0) = false := by rw [bne_eq_false_iff_eq]; omega
        have gan : (an != 0) = false := by rw [bne_eq_false_iff_eq]; omega
        have Hh1a := hid h1a
        clear h1a
        have HPX := hid (HPN.out (by
          unfold plainB
          simp only
          rw [if_pos (by have := HO.out; omega), decide_eq_true (show (an : Int) = 0 by have := Hh1a.out; omega), decide_eq_true (show (bn : Int) = 0 by have := Hh1b.out; omega)]
          rfl))
        cases kn
        · as_aux_lemma =>
          go_upto_region 12 with fail
          rw [← hw6]
          clear hw6 hcv s0 s1 s2 s3 s4 s5 e6
          have s0 := cell_of HC6.out (i := 0) (by rfl)
          have s1 := cell_of HC6.out (i := 1) (by rfl)
          have s2 := cell_of HC6.out (i := 2) (by rfl)
          have s3 := cell_of HC6.out (i := 3) (by rfl)
          have s4 := cell_of HC6.out (i := 4) (by rfl)
          have s5 := cell_of HC6.out (i := 5) (by rfl)
          have q1 : ((on : Int) == 1) = true := by rw [beq_iff_eq]; have := HO.out; omega
          have q1n : (on == 1) = true := by rw [beq_iff_eq]; have := HO.out; omega
          go_upto_region 17 with fail
          clear s0 s1 s2 s3 s4 s5
          have HKd := hid HK6L.out.drew
          have HCd : Hid (w6.drew.heap[sb]? = _) := HC6
          have HSB : Hid (sb < w6.drew.heap.size) := hid (lt_of_heap HCd.out)
          obtain ⟨sgb, hsgb⟩ : ∃ sgb, bsB (leL 1 0) = sgb := ⟨_, rfl⟩
          have hsgb2 := hid hsgb
          have hsgs : sgb.size ≤ 1 := by rw [← hsgb, bs_size, leL_len]; exact Nat.le_refl _
          obtain ⟨lb, hlb⟩ : ∃ lb, bsB (leL 8 kl) = lb := ⟨_, rfl⟩
          have hlbs : lb.size ≤ 8 := by rw [← hlb, bs_size, leL_len]; exact Nat.le_refl _
          obtain ⟨hb, hhb⟩ : ∃ hb, bsB (leL 8 kh) = hb := ⟨_, rfl⟩
          have hhbs : hb.size ≤ 8 := by rw [← hhb, bs_size, leL_len]; exact Nat.le_refl _
          have y2 : ¬ (9223372036854775807 < sk.size + ob.size + sgb.size) := by omega
          have y3 : ¬ (9223372036854775807 < sk.size + ob.size + sgb.size + lb.size) := by omega
          have y4 : ¬ (9223372036854775807 < sk.size + ob.size + sgb.size + lb.size + hb.size) := by omega
          have HWL := hid (fun w => r_word11 kl HFT.out.2 w)
          have HWH := hid (fun w => r_word11 kh HFT.out.1 w)
          rw [hlb] at HWL
          rw [hhb] at HWH
          have HFIN : Hid (sk ++ ob ++ sgb ++ lb ++ hb = bsB (leL 1 code.length ++ (code.take (k + 1)).flatMap insL)) := hid (by
            have e2 : on = 1 := HO.out
            rw [HNX.out, show ((on : Nat) : Int) = 1 by rw [e2]; rfl, insL_1, ← HSK.out, ← HOB.out, ← hsgb, ← hlb, ← hhb, e2, bs_app, bs_app, bs_app, bs_app]
            simp only [List.append_assoc]
            rfl)
          clear hsgb hlb hhb hcl hcl2
          refine Plan.wp_region_tr (.st 0 (.st 1 (.st 5 (.st 6 (.st 7 (.st 10 (.st 11 (.st 12 (.br 2 [0, 5, 6, 7, 10, 11, 12] (.st 3 (.st 4 (.ac 8 [0, 10, 11, 12, 3, 4] (.st 9 (.ac 13 [0, 3, 4, 9] (.st 14 (.ac 15 [] .done))))))) 8 [0, 1, 10, 11, 12] (.br 2 [0, 10, 11, 12] (.st 3 (.st 4 (.st 9 (.ac 13 [0, 3, 4, 9] (.st 14 (.ac 15 [] .done)))))) 13 [0, 1] (.ac 2 [0] (.st 3 (.st 4 (.st 9 (.st 14 (.ac 15 [] .done)))))))))))))))) (by as_aux_lemma => kernel_rfl) (by as_aux_lemma => kernel_rfl) ?_
          generalize w6.drew = wd at *
          have s0 := cell_of HCd.out (i := 0) (by rfl)
          have s1 := cell_of HCd.out (i := 1) (by rfl)
          have s2 := cell_of HCd.out (i := 2) (by rfl)
          have s3 := cell_of HCd.out (i := 3) (by rfl)
          have s4 := cell_of HCd.out (i := 4) (by rfl)
          have s5 := cell_of HCd.out (i := 5) (by rfl)
          iterate 8 (refine Plan.tr_st rfl ?_; go_big_quiet_step (fail); refine wpQuiet_nil ?_)
          refine Plan.tr_br rfl rfl ?_ ?_
          · obtain ⟨v1, hwv1, hbv1, hsv1, hkv1⟩ := box1 wd #[.int .u8 0] 5
            have HKv1 := hid (HKd.out.trans hkv1)
            have HCv1 := hid (hkv1.get HCd.out id)
            have HBv1 : Hid (v1.heap[wd.heap.size]? = some (.cells #[.int .u8 ((0 : Nat) : Int)] 5 (0, 0))) := hid hbv1
            clear hbv1 hsv1 hkv1
            go_wp2
            rw [← hwv1]
            clear hwv1 s0 s1 s2 s3 s4 s5
            generalize wd.heap.size = tb at *
            have hcv := one_bsW HBv1.out (by omega)
            rw [hsgb2.out] at hcv
            have s0 := cell_of HCv1.out (i := 0) (by rfl)
            have s1 := cell_of HCv1.out (i := 1) (by rfl)
            have s2 := cell_of HCv1.out (i := 2) (by rfl)
            have s3 := cell_of HCv1.out (i := 3) (by rfl)
            have s4 := cell_of HCv1.out (i := 4) (by rfl)
            have s5 := cell_of HCv1.out (i := 5) (by rfl)
            refine Plan.trQ_mk ?_ ?_
            · iterate 7 (refine Plan.chk_st rfl ?_ ?_; focus (go_big_quiet_step (fail); exact wpQuiet_nil rfl))
              exact Plan.chk_end
            iterate 2 (refine Plan.tr_st rfl ?_; go_big_quiet_step (fail); refine wpQuiet_nil ?_)
            refine Plan.tr_ac rfl ?_
            go_wp2_with fail
            refine (HWL.out v1).mono ?_
            rintro r v2 ⟨rfl, hk⟩
            have HKv2 := hid (HKv1.out.trans hk)
            have HCv2 := hid (hk.get HCv1.out id)
            have HBv2 := hid (hk.get HBv1.out id)
            have hcv := one_bsW HBv2.out (by omega)
            rw [hsgb2.out] at hcv
            clear hk s0 s1 s2 s3 s4 s5
            have s0 := cell_of HCv2.out (i := 0) (by rfl)
            have s1 := cell_of HCv2.out (i := 1) (by rfl)
            have s2 := cell_of HCv2.out (i := 2) (by rfl)
            have s3 := cell_of HCv2.out (i := 3) (by rfl)
            have s4 := cell_of HCv2.out (i := 4) (by rfl)
            have s5 := cell_of HCv2.out (i := 5) (by rfl)
            go_wp2
            refine Plan.trQ_mk ?_ ?_
            · iterate 6 (refine Plan.chk_st rfl ?_ ?_; focus (go_big_quiet_step (fail); exact wpQuiet_nil rfl))
              exact Plan.chk_end
            iterate 1 (refine Plan.tr_st rfl ?_; go_big_quiet_step (fail); refine wpQuiet_nil ?_)
            refine Plan.tr_ac rfl ?_
            go_wp2_with fail
            refine (HWH.out v2).mono ?_
            rintro r v3 ⟨rfl, hk⟩
            have HKv3 := hid (HKv2.out.trans hk)
            have HCv3 := hid (hk.get HCv2.out id)
            have HBv3 := hid (hk.get HBv2.out id)
            have hcv := one_bsW HBv3.out (by omega)
            rw [hsgb2.out] at hcv
            clear hk s0 s1 s2 s3 s4 s5
            have s0 := cell_of HCv3.out (i := 0) (by rfl)
            have s1 := cell_of HCv3.out (i := 1) (by rfl)
            have s2 := cell_of HCv3.out (i := 2) (by rfl)
            have s3 := cell_of HCv3.out (i := 3) (by rfl)
            have s4 := cell_of HCv3.out (i := 4) (by rfl)
            have s5 := cell_of HCv3.out (i := 5) (by rfl)
            go_wp2
            refine Plan.trQ_mk ?_ ?_
            · iterate 4 (refine Plan.chk_st rfl ?_ ?_; focus (go_big_quiet_step (fail); exact wpQuiet_nil rfl))
              exact Plan.chk_end
            iterate 1 (refine Plan.tr_st rfl ?_; go_big_quiet_step (fail); refine wpQuiet_nil ?_)
            refine Plan.tr_ac rfl ?_
            go_wp2
            refine Plan.trQ_mk Plan.chk_end ?_
            refine Plan.tr_end ?_
            clear s0 s1 s2 s3 s4 s5 y1 y2 y3 y4 hsgs hlbs hhbs u0 u1 u2
            have hcl : code.length ≤ 64 := HALL.out.2.1
            clear HPN
            go_wp2
            go_roundw
            case rel => exact ⟨k + 1, by omega, by go_num, by rw [HFIN.out], HPX.out, HKv3.out⟩
            case measure => simp [RowKit.intOf]; omega
          · go_wp2_with fail
            refine (HWL.out wd).mono ?_
            rintro r v1 ⟨rfl, hk⟩
            have HKv1 := hid (HKd.out.trans hk)
            have HCv1 := hid (hk.get HCd.out id)
            clear hk s0 s1 s2 s3 s4 s5
            have s0 := cell_of HCv1.out (i := 0) (by rfl)
            have s1 := cell_of HCv1.out (i := 1) (by rfl)
            have s2 := cell_of HCv1.out (i := 2) (by rfl)
            have s3 := cell_of HCv1.out (i := 3) (by rfl)
            have s4 := cell_of HCv1.out (i := 4) (by rfl)
            have s5 := cell_of HCv1.out (i := 5) (by rfl)
            go_wp2
            refine Plan.trQ_mk ?_ ?_
            · iterate 5 (refine Plan.chk_st rfl ?_ ?_; focus (go_big_quiet_step (fail); exact wpQuiet_nil rfl))
              exact Plan.chk_end
            refine Plan.tr_br rfl rfl ?_ ?_
            · obtain ⟨v2, hwv2, hbv2, hsv2, hkv2⟩ := box1 v1 #[.int .u8 0] 5
              have HKv2 := hid (HKv1.out.trans hkv2)
              have HCv2 := hid (hkv2.get HCv1.out id)
              have HBv2 : Hid (v2.heap[v1.heap.size]? = some (.cells #[.int .u8 ((0 : Nat) : Int)] 5 (0, 0))) := hid hbv2
              clear hbv2 hsv2 hkv2
              go_wp2
              rw [← hwv2]
              clear hwv2 s0 s1 s2 s3 s4 s5
              generalize v1.heap.size = tb at *
              have hcv := one_bsW HBv2.out (by omega)
              rw [hsgb2.out] at hcv
              have s0 := cell_of HCv2.out (i := 0) (by rfl)
              have s1 := cell_of HCv2.out (i := 1) (by rfl)
              have s2 := cell_of HCv2.out (i := 2) (by rfl)
              have s3 := cell_of HCv2.out (i := 3) (by rfl)
              have s4 := cell_of HCv2.out (i := 4) (by rfl)
              have s5 := cell_of HCv2.out (i := 5) (by rfl)
              refine Plan.trQ_mk ?_ ?_
              · iterate 4 (refine Plan.chk_st rfl ?_ ?_; focus (go_big_quiet_step (fail); exact wpQuiet_nil rfl))
                exact Plan.chk_end
              iterate 3 (refine Plan.tr_st rfl ?_; go_big_quiet_step (fail); refine wpQuiet_nil ?_)
              refine Plan.tr_ac rfl ?_
              go_wp2_with fail
              refine (HWH.out v2).mono ?_
              rintro r v3 ⟨rfl, hk⟩
              have HKv3 := hid (HKv2.out.trans hk)
              have HCv3 := hid (hk.get HCv2.out id)
              have HBv3 := hid (hk.get HBv2.out id)
              have hcv := one_bsW HBv3.out (by omega)
              rw [hsgb2.out] at hcv
              clear hk s0 s1 s2 s3 s4 s5
              have s0 := cell_of HCv3.out (i := 0) (by rfl)
              have s1 := cell_of HCv3.out (i := 1) (by rfl)
              have s2 := cell_of HCv3.out (i := 2) (by rfl)
              have s3 := cell_of HCv3.out (i := 3) (by rfl)
              have s4 := cell_of HCv3.out (i := 4) (by rfl)
              have s5 := cell_of HCv3.out (i := 5) (by rfl)
              go_wp2
              refine Plan.trQ_mk ?_ ?_
              · iterate 4 (refine Plan.chk_st rfl ?_ ?_; focus (go_big_quiet_step (fail); exact wpQuiet_nil rfl))
                exact Plan.chk_end
              iterate 1 (refine Plan.tr_st rfl ?_; go_big_quiet_step (fail); refine wpQuiet_nil ?_)
              refine Plan.tr_ac rfl ?_
              go_wp2
              refine Plan.trQ_mk Plan.chk_end ?_
              refine Plan.tr_end ?_
              clear s0 s1 s2 s3 s4 s5 y1 y2 y3 y4 hsgs hlbs hhbs u0 u1 u2
              have hcl : code.length ≤ 64 := HALL.out.2.1
              clear HPN
              go_wp2
              go_roundw
              case rel => exact ⟨k + 1, by omega, by go_num, by rw [HFIN.out], HPX.out, HKv3.out⟩
              case measure => simp [RowKit.intOf]; omega
            · go_wp2_with fail
              refine (HWH.out v1).mono ?_
              rintro r v2 ⟨rfl, hk⟩
              have HKv2 := hid (HKv1.out.trans hk)
              have HCv2 := hid (hk.get HCv1.out id)
              clear hk s0 s1 s2 s3 s4 s5
              have s0 := cell_of HCv2.out (i := 0) (by rfl)
              have s1 := cell_of HCv2.out (i := 1) (by rfl)
              have s2 := cell_of HCv2.out (i := 2) (by rfl)
              have s3 := cell_of HCv2.out (i := 3) (by rfl)
              have s4 := cell_of HCv2.out (i := 4) (by rfl)
              have s5 := cell_of HCv2.out (i := 5) (by rfl)
              go_wp2
              refine Plan.trQ_mk ?_ ?_
              · iterate 2 (refine Plan.chk_st rfl ?_ ?_; focus (go_big_quiet_step (fail); exact wpQuiet_nil rfl))
                exact Plan.chk_end
              refine Plan.tr_ac rfl ?_
              obtain ⟨v3, hwv3, hbv3, hsv3, hkv3⟩ := box1 v2 #[.int .u8 0] 5
              have HKv3 := hid (HKv2.out.trans hkv3)
              have HCv3 := hid (hkv3.get HCv2.out id)
              have HBv3 : Hid (v3.heap[v2.heap.size]? = some (.cells #[.int .u8 ((0 : Nat) : Int)] 5 (0, 0))) := hid hbv3
              clear hbv3 hsv3 hkv3
              go_wp2
              rw [← hwv3]
              clear hwv3 s0 s1 s2 s3 s4 s5
              generalize v2.heap.size = tb at *
              have hcv := one_bsW HBv3.out (by omega)
              rw [hsgb2.out] at hcv
              have s0 := cell_of HCv3.out (i := 0) (by rfl)
              have s1 := cell_of HCv3.out (i := 1) (by rfl)
              have s2 := cell_of HCv3.out (i := 2) (by rfl)
              have s3 := cell_of HCv3.out (i := 3) (by rfl)
              have s4 := cell_of HCv3.out (i := 4) (by rfl)
              have s5 := cell_of HCv3.out (i := 5) (by rfl)
              refine Plan.trQ_mk ?_ ?_
              · iterate 1 (refine Plan.chk_st rfl ?_ ?_; focus (go_big_quiet_step (fail); exact wpQuiet_nil rfl))
                exact Plan.chk_end
              iterate 4 (refine Plan.tr_st rfl ?_; go_big_quiet_step (fail); refine wpQuiet_nil ?_)
              refine Plan.tr_ac rfl ?_
              go_wp2
              refine Plan.trQ_mk Plan.chk_end ?_
              refine Plan.tr_end ?_
              clear s0 s1 s2 s3 s4 s5 y1 y2 y3 y4 hsgs hlbs hhbs u0 u1 u2
              have hcl : code.length ≤ 64 := HALL.out.2.1
              clear HPN
              go_wp2
              go_roundw
              case rel => exact ⟨k + 1, by omega, by go_num, by rw [HFIN.out], HPX.out, HKv3.out⟩
              case measure => simp [RowKit.intOf]; omega
        · as_aux_lemma =>
          go_upto_region 12 with fail
          rw [← hw6]
          clear hw6 hcv s0 s1 s2 s3 s4 s5 e6
          have s0 := cell_of HC6.out (i := 0) (by rfl)
          have s1 := cell_of HC6.out (i := 1) (by rfl)
          have s2 := cell_of HC6.out (i := 2) (by rfl)
          have s3 := cell_of HC6.out (i := 3) (by rfl)
          have s4 := cell_of HC6.out (i := 4) (by rfl)
          have s5 := cell_of HC6.out (i := 5) (by rfl)
          have q1 : ((on : Int) == 1) = true := by rw [beq_iff_eq]; have := HO.out; omega
          have q1n : (on == 1) = true := by rw [beq_iff_eq]; have := HO.out; omega
          go_upto_region 17 with fail
          clear s0 s1 s2 s3 s4 s5
          have HKd := hid HK6L.out.drew
          have HCd : Hid (w6.drew.heap[sb]? = _) := HC6
          have HSB : Hid (sb < w6.drew.heap.size) := hid (lt_of_heap HCd.out)
          obtain ⟨sgb, hsgb⟩ : ∃ sgb, bsB (leL 1 1) = sgb := ⟨_, rfl⟩
          have hsgb2 := hid hsgb
          have hsgs : sgb.size ≤ 1 := by rw [← hsgb, bs_size, leL_len]; exact Nat.le_refl _
          obtain ⟨lb, hlb⟩ : ∃ lb, bsB (leL 8 kl) = lb := ⟨_, rfl⟩
          have hlbs : lb.size ≤ 8 := by rw [← hlb, bs_size, leL_len]; exact Nat.le_refl _
          obtain ⟨hb, hhb⟩ : ∃ hb, bsB (leL 8 kh) = hb := ⟨_, rfl⟩
          have hhbs : hb.size ≤ 8 := by rw [← hhb, bs_size, leL_len]; exact Nat.le_refl _
          have y2 : ¬ (9223372036854775807 < sk.size + ob.size + sgb.size) := by omega
          have y3 : ¬ (9223372036854775807 < sk.size + ob.size + sgb.size + lb.size) := by omega
          have y4 : ¬ (9223372036854775807 < sk.size + ob.size + sgb.size + lb.size + hb.size) := by omega
          have HWL := hid (fun w => r_word11 kl HFT.out.2 w)
          have HWH := hid (fun w => r_word11 kh HFT.out.1 w)
          rw [hlb] at HWL
          rw [hhb] at HWH
          have HFIN : Hid (sk ++ ob ++ sgb ++ lb ++ hb = bsB (leL 1 code.length ++ (code.take (k + 1)).flatMap insL)) := hid (by
            have e2 : on = 1 := HO.out
            rw [HNX.out, show ((on : Nat) : Int) = 1 by rw [e2]; rfl, insL_1, ← HSK.out, ← HOB.out, ← hsgb, ← hlb, ← hhb, e2, bs_app, bs_app, bs_app, bs_app]
            simp only [List.append_assoc]
            rfl)
          clear hsgb hlb hhb hcl hcl2
          refine Plan.wp_region_tr (.st 0 (.st 1 (.st 5 (.st 6 (.st 7 (.st 10 (.st 11 (.st 12 (.br 2 [0, 5, 6, 7, 10, 11, 12] (.st 3 (.st 4 (.ac 8 [0, 10, 11, 12, 3, 4] (.st 9 (.ac 13 [0, 3, 4, 9] (.st 14 (.ac 15 [] .done))))))) 8 [0, 1, 10, 11, 12] (.br 2 [0, 10, 11, 12] (.st 3 (.st 4 (.st 9 (.ac 13 [0, 3, 4, 9] (.st 14 (.ac 15 [] .done)))))) 13 [0, 1] (.ac 2 [0] (.st 3 (.st 4 (.st 9 (.st 14 (.ac 15 [] .done)))))))))))))))) (by as_aux_lemma => kernel_rfl) (by as_aux_lemma => kernel_rfl) ?_
          generalize w6.drew = wd at *
          have s0 := cell_of HCd.out (i := 0) (by rfl)
          have s1 := cell_of HCd.out (i := 1) (by rfl)
          have s2 := cell_of HCd.out (i := 2) (by rfl)
          have s3 := cell_of HCd.out (i := 3) (by rfl)
          have s4 := cell_of HCd.out (i := 4) (by rfl)
          have s5 := cell_of HCd.out (i := 5) (by rfl)
          iterate 8 (refine Plan.tr_st rfl ?_; go_big_quiet_step (fail); refine wpQuiet_nil ?_)
          refine Plan.tr_br rfl rfl ?_ ?_
          · obtain ⟨v1, hwv1, hbv1, hsv1, hkv1⟩ := box1 wd #[.int .u8 1] 5
            have HKv1 := hid (HKd.out.trans hkv1)
            have HCv1 := hid (hkv1.get HCd.out id)
            have HBv1 : Hid (v1.heap[wd.heap.size]? = some (.cells #[.int .u8 ((1 : Nat) : Int)] 5 (0, 0))) := hid hbv1
            clear hbv1 hsv1 hkv1
            go_wp2
            rw [← hwv1]
            clear hwv1 s0 s1 s2 s3 s4 s5
            generalize wd.heap.size = tb at *
            have hcv := one_bsW HBv1.out (by omega)
            rw [hsgb2.out] at hcv
            have s0 := cell_of HCv1.out (i := 0) (by rfl)
            have s1 := cell_of HCv1.out (i := 1) (by rfl)
            have s2 := cell_of HCv1.out (i := 2) (by rfl)
            have s3 := cell_of HCv1.out (i := 3) (by rfl)
            have s4 := cell_of HCv1.out (i := 4) (by rfl)
            have s5 := cell_of HCv1.out (i := 5) (by rfl)
            refine Plan.trQ_mk ?_ ?_
            · iterate 7 (refine Plan.chk_st rfl ?_ ?_; focus (go_big_quiet_step (fail); exact wpQuiet_nil rfl))
              exact Plan.chk_end
            iterate 2 (refine Plan.tr_st rfl ?_; go_big_quiet_step (fail); refine wpQuiet_nil ?_)
            refine Plan.tr_ac rfl ?_
            go_wp2_with fail
            refine (HWL.out v1).mono ?_
            rintro r v2 ⟨rfl, hk⟩
            have HKv2 := hid (HKv1.out.trans hk)
            have HCv2 := hid (hk.get HCv1.out id)
            have HBv2 := hid (hk.get HBv1.out id)
            have hcv := one_bsW HBv2.out (by omega)
            rw [hsgb2.out] at hcv
            clear hk s0 s1 s2 s3 s4 s5
            have s0 := cell_of HCv2.out (i := 0) (by rfl)
            have s1 := cell_of HCv2.out (i := 1) (by rfl)
            have s2 := cell_of HCv2.out (i := 2) (by rfl)
            have s3 := cell_of HCv2.out (i := 3) (by rfl)
            have s4 := cell_of HCv2.out (i := 4) (by rfl)
            have s5 := cell_of HCv2.out (i := 5) (by rfl)
            go_wp2
            refine Plan.trQ_mk ?_ ?_
            · iterate 6 (refine Plan.chk_st rfl ?_ ?_; focus (go_big_quiet_step (fail); exact wpQuiet_nil rfl))
              exact Plan.chk_end
            iterate 1 (refine Plan.tr_st rfl ?_; go_big_quiet_step (fail); refine wpQuiet_nil ?_)
            refine Plan.tr_ac rfl ?_
            go_wp2_with fail
            refine (HWH.out v2).mono ?_
            rintro r v3 ⟨rfl, hk⟩
            have HKv3 := hid (HKv2.out.trans hk)
            have HCv3 := hid (hk.get HCv2.out id)
            have HBv3 := hid (hk.get HBv2.out id)
            have hcv := one_bsW HBv3.out (by omega)
            rw [hsgb2.out] at hcv
            clear hk s0 s1 s2 s3 s4 s5
            have s0 := cell_of HCv3.out (i := 0) (by rfl)
            have s1 := cell_of HCv3.out (i := 1) (by rfl)
            have s2 := cell_of HCv3.out (i := 2) (by rfl)
            have s3 := cell_of HCv3.out (i := 3) (by rfl)
            have s4 := cell_of HCv3.out (i := 4) (by rfl)
            have s5 := cell_of HCv3.out (i := 5) (by rfl)
            go_wp2
            refine Plan.trQ_mk ?_ ?_
            · iterate 4 (refine Plan.chk_st rfl ?_ ?_; focus (go_big_quiet_step (fail); exact wpQuiet_nil rfl))
              exact Plan.chk_end
            iterate 1 (refine Plan.tr_st rfl ?_; go_big_quiet_step (fail); refine wpQuiet_nil ?_)
            refine Plan.tr_ac rfl ?_
            go_wp2
            refine Plan.trQ_mk Plan.chk_end ?_
            refine Plan.tr_end ?_
            clear s0 s1 s2 s3 s4 s5 y1 y2 y3 y4 hsgs hlbs hhbs u0 u1 u2
            have hcl : code.length ≤ 64 := HALL.out.2.1
            clear HPN
            go_wp2
            go_roundw
            case rel => exact ⟨k + 1, by omega, by go_num, by rw [HFIN.out], HPX.out, HKv3.out⟩
            case measure => simp [RowKit.intOf]; omega
          · go_wp2_with fail
            refine (HWL.out wd).mono ?_
            rintro r v1 ⟨rfl, hk⟩
            have HKv1 := hid (HKd.out.trans hk)
            have HCv1 := hid (hk.get HCd.out id)
            clear hk s0 s1 s2 s3 s4 s5
            have s0 := cell_of HCv1.out (i := 0) (by rfl)
            have s1 := cell_of HCv1.out (i := 1) (by rfl)
            have s2 := cell_of HCv1.out (i := 2) (by rfl)
            have s3 := cell_of HCv1.out (i := 3) (by rfl)
            have s4 := cell_of HCv1.out (i := 4) (by rfl)
            have s5 := cell_of HCv1.out (i := 5) (by rfl)
            go_wp2
            refine Plan.trQ_mk ?_ ?_
            · iterate 5 (refine Plan.chk_st rfl ?_ ?_; focus (go_big_quiet_step (fail); exact wpQuiet_nil rfl))
              exact Plan.chk_end
            refine Plan.tr_br rfl rfl ?_ ?_
            · obtain ⟨v2, hwv2, hbv2, hsv2, hkv2⟩ := box1 v1 #[.int .u8 1] 5
              have HKv2 := hid (HKv1.out.trans hkv2)
              have HCv2 := hid (hkv2.get HCv1.out id)
              have HBv2 : Hid (v2.heap[v1.heap.size]? = some (.cells #[.int .u8 ((1 : Nat) : Int)] 5 (0, 0))) := hid hbv2
              clear hbv2 hsv2 hkv2
              go_wp2
              rw [← hwv2]
              clear hwv2 s0 s1 s2 s3 s4 s5
              generalize v1.heap.size = tb at *
              have hcv := one_bsW HBv2.out (by omega)
              rw [hsgb2.out] at hcv
              have s0 := cell_of HCv2.out (i := 0) (by rfl)
              have s1 := cell_of HCv2.out (i := 1) (by rfl)
              have s2 := cell_of HCv2.out (i := 2) (by rfl)
              have s3 := cell_of HCv2.out (i := 3) (by rfl)
              have s4 := cell_of HCv2.out (i := 4) (by rfl)
              have s5 := cell_of HCv2.out (i := 5) (by rfl)
              refine Plan.trQ_mk ?_ ?_
              · iterate 4 (refine Plan.chk_st rfl ?_ ?_; focus (go_big_quiet_step (fail); exact wpQuiet_nil rfl))
                exact Plan.chk_end
              iterate 3 (refine Plan.tr_st rfl ?_; go_big_quiet_step (fail); refine wpQuiet_nil ?_)
              refine Plan.tr_ac rfl ?_
              go_wp2_with fail
              refine (HWH.out v2).mono ?_
              rintro r v3 ⟨rfl, hk⟩
              have HKv3 := hid (HKv2.out.trans hk)
              have HCv3 := hid (hk.get HCv2.out id)
              have HBv3 := hid (hk.get HBv2.out id)
              have hcv := one_bsW HBv3.out (by omega)
              rw [hsgb2.out] at hcv
              clear hk s0 s1 s2 s3 s4 s5
              have s0 := cell_of HCv3.out (i := 0) (by rfl)
              have s1 := cell_of HCv3.out (i := 1) (by rfl)
              have s2 := cell_of HCv3.out (i := 2) (by rfl)
              have s3 := cell_of HCv3.out (i := 3) (by rfl)
              have s4 := cell_of HCv3.out (i := 4) (by rfl)
              have s5 := cell_of HCv3.out (i := 5) (by rfl)
              go_wp2
              refine Plan.trQ_mk ?_ ?_
              · iterate 4 (refine Plan.chk_st rfl ?_ ?_; focus (go_big_quiet_step (fail); exact wpQuiet_nil rfl))
                exact Plan.chk_end
              iterate 1 (refine Plan.tr_st rfl ?_; go_big_quiet_step (fail); refine wpQuiet_nil ?_)
              refine Plan.tr_ac rfl ?_
              go_wp2
              refine Plan.trQ_mk Plan.chk_end ?_
              refine Plan.tr_end ?_
              clear s0 s1 s2 s3 s4 s5 y1 y2 y3 y4 hsgs hlbs hhbs u0 u1 u2
              have hcl : code.length ≤ 64 := HALL.out.2.1
              clear HPN
              go_wp2
              go_roundw
              case rel => exact ⟨k + 1, by omega, by go_num, by rw [HFIN.out], HPX.out, HKv3.out⟩
              case measure => simp [RowKit.intOf]; omega
            · go_wp2_with fail
              refine (HWH.out v1).mono ?_
              rintro r v2 ⟨rfl, hk⟩
              have HKv2 := hid (HKv1.out.trans hk)
              have HCv2 := hid (hk.get HCv1.out id)
              clear hk s0 s1 s2 s3 s4 s5
              have s0 := cell_of HCv2.out (i := 0) (by rfl)
              have s1 := cell_of HCv2.out (i := 1) (by rfl)
              have s2 := cell_of HCv2.out (i := 2) (by rfl)
              have s3 := cell_of HCv2.out (i := 3) (by rfl)
              have s4 := cell_of HCv2.out (i := 4) (by rfl)
              have s5 := cell_of HCv2.out (i := 5) (by rfl)
              go_wp2
              refine Plan.trQ_mk ?_ ?_
              · iterate 2 (refine Plan.chk_st rfl ?_ ?_; focus (go_big_quiet_step (fail); exact wpQuiet_nil rfl))
                exact Plan.chk_end
              refine Plan.tr_ac rfl ?_
              obtain ⟨v3, hwv3, hbv3, hsv3, hkv3⟩ := box1 v2 #[.int .u8 1] 5
              have HKv3 := hid (HKv2.out.trans hkv3)
              have HCv3 := hid (hkv3.get HCv2.out id)
              have HBv3 : Hid (v3.heap[v2.heap.size]? = some (.cells #[.int .u8 ((1 : Nat) : Int)] 5 (0, 0))) := hid hbv3
              clear hbv3 hsv3 hkv3
              go_wp2
              rw [← hwv3]
              clear hwv3 s0 s1 s2 s3 s4 s5
              generalize v2.heap.size = tb at *
              have hcv := one_bsW HBv3.out (by omega)
              rw [hsgb2.out] at hcv
              have s0 := cell_of HCv3.out (i := 0) (by rfl)
              have s1 := cell_of HCv3.out (i := 1) (by rfl)
              have s2 := cell_of HCv3.out (i := 2) (by rfl)
              have s3 := cell_of HCv3.out (i := 3) (by rfl)
              have s4 := cell_of HCv3.out (i := 4) (by rfl)
              have s5 := cell_of HCv3.out (i := 5) (by rfl)
              refine Plan.trQ_mk ?_ ?_
              · iterate 1 (refine Plan.chk_st rfl ?_ ?_; focus (go_big_quiet_step (fail); exact wpQuiet_nil rfl))
                exact Plan.chk_end
              iterate 4 (refine Plan.tr_st rfl ?_; go_big_quiet_step (fail); refine wpQuiet_nil ?_)
              refine Plan.tr_ac rfl ?_
              go_wp2
              refine Plan.trQ_mk Plan.chk_end ?_
              refine Plan.tr_end ?_
              clear s0 s1 s2 s3 s4 s5 y1 y2 y3 y4 hsgs hlbs hhbs u0 u1 u2
              have hcl : code.length ≤ 64 := HALL.out.2.1
              clear HPN
              go_wp2
              go_roundw
              case rel => exact ⟨k + 1, by omega, by go_num, by rw [HFIN.out], HPX.out, HKv3.out⟩
              case measure => simp [RowKit.intOf]; omega
      have o1 : ((on : Int) != 1) = true := by rw [bne_iff_ne]; omega
      have o1n : (on != 1) = true := by rw [bne_iff_ne]; omega
      by_cases h2 : on = 2
      · have o2 : ((on : Int) != 2) = false := by rw [bne_eq_false_iff_eq]; omega
        have o2n : (on != 2) = false := by rw [bne_eq_false_iff_eq]; omega
        have HO := hid h2
        clear h2
        cases hkk : kz ⟨kn, kh, kl⟩
        · cases kn
          · by_cases hh0 : kh = 0
            · subst hh0
              by_cases hl0 : kl = 0
              · subst hl0
                exact absurd hkk (by decide)
              have gl : ((kl : Int) != 0) = true := by rw [bne_iff_ne]; omega
              have gln : (kl != 0) = true := by rw [bne_iff_ne]; omega
              have gm : ((kl : Int) == 0) = false := by rw [beq_eq_false_iff_ne]; omega
              have gmn : (kl == 0) = false := by rw [beq_eq_false_iff_ne]; omega
              have s4 : w5.cell? ⟨sb, 4, none⟩ = some (.int .u64 0) := s4
              clear hl0
              as_aux_lemma =>
              have G := hid (HBX.out (by
                unfold plainB
                simp only
                rw [if_neg (by omega), if_pos (by have := HO.out; omega), hkk]))
              go_wp2
              go_ret2
              exact ⟨by rw [G.out.1, G.out.2]; rfl, HK5.out⟩
            have gl : ((kh : Int) != 0) = true := by rw [bne_iff_ne]; omega
            have gln : (kh != 0) = true := by rw [bne_iff_ne]; omega
            have gm : ((kh : Int) == 0) = false := by rw [beq_eq_false_iff_ne]; omega
            have gmn : (kh == 0) = false := by rw [beq_eq_false_iff_ne]; omega
            clear hh0
            as_aux_lemma =>
            have G := hid (HBX.out (by
              unfold plainB
              simp only
              rw [if_neg (by omega), if_pos (by have := HO.out; omega), hkk]))
            go_wp2
            go_ret2
            exact ⟨by rw [G.out.1, G.out.2]; rfl, HK5.out⟩
          · as_aux_lemma =>
            have G := hid (HBX.out (by
              unfold plainB
              simp only
              rw [if_neg (by omega), if_pos (by have := HO.out; omega), hkk]))
            go_wp2
            go_ret2
            exact ⟨by rw [G.out.1, G.out.2]; rfl, HK5.out⟩
        obtain ⟨rfl, rfl, rfl⟩ : kn = false ∧ kh = 0 ∧ kl = 0 := by
          have h := kz_zero hkk
          injection h with h1 h2 h3
          exact ⟨h1, h2, h3⟩
        have s4 : w5.cell? ⟨sb, 4, none⟩ = some (.int .u64 0) := s4
        have s5 : w5.cell? ⟨sb, 5, none⟩ = some (.int .u64 0) := s5
        have HPX := hid (HPN.out (by
          unfold plainB
          simp only
          rw [if_neg (by omega), if_pos (by have := HO.out; omega), hkk]))
        go_upto_region 12 with fail
        rw [← hw6]
        clear hw6 hcv s0 s1 s2 s3 s4 s5 e6
        have s0 := cell_of HC6.out (i := 0) (by rfl)
        have s1 := cell_of HC6.out (i := 1) (by rfl)
        have s2 := cell_of HC6.out (i := 2) (by rfl)
        have s3 := cell_of HC6.out (i := 3) (by rfl)
        have s4 := cell_of HC6.out (i := 4) (by rfl)
        have s5 := cell_of HC6.out (i := 5) (by rfl)
        have q1 : ((on : Int) == 1) = false := by rw [beq_eq_false_iff_ne]; omega
        have q1n : (on == 1) = false := by rw [beq_eq_false_iff_ne]; omega
        have q2 : ((on : Int) == 2) = true := by rw [beq_iff_eq]; have := HO.out; omega
        have q2n : (on == 2) = true := by rw [beq_iff_eq]; have := HO.out; omega
        obtain ⟨ab, hab⟩ : ∃ ab, bsB (leL 1 an ++ leL 1 bn) = ab := ⟨_, rfl⟩
        have has : ab.size ≤ 2 := by rw [← hab, bs_size, List.length_append, leL_len, leL_len]; exact Nat.le_refl _
        have y2 : ¬ (9223372036854775807 < sk.size + ob.size + ab.size) := by omega
        obtain ⟨w7, hw7, hb7, hs7, hk7⟩ := box1 w6 #[.int .u8 (an : Int), .int .u8 (bn : Int)] 5
        have hcv := two_bs w6 an bn la0 lb0
        rw [hab] at hcv
        have HK7L := hid (HK6L.out.trans hk7)
        have HFIN : Hid (sk ++ ob ++ ab = bsB (leL 1 code.length ++ (code.take (k + 1)).flatMap insL)) := hid (by
          have e2 : on = 2 := HO.out
          rw [HNX.out, show ((on : Nat) : Int) = 2 by rw [e2]; rfl, insL_2, UA.out, UB.out, ← HSK.out, ← HOB.out, ← hab, e2, bs_app, bs_app]
          simp only [List.append_assoc])
        clear hab hb7 hs7 hk7 h1 HPN
        go_upto_region 7 with fail
        rw [← hw7]
        clear hw7 hcv
        go_wp2
        go_roundw
        case rel => exact ⟨k + 1, by omega, by go_num, by rw [HFIN.out], HPX.out, HK7L.out⟩
        case measure => simp [RowKit.intOf]; omega
      have o2 : ((on : Int) != 2) = true := by rw [bne_iff_ne]; omega
      have o2n : (on != 2) = true := by rw [bne_iff_ne]; omega
      by_cases h3 : on = 3
      · have o3 : ((on : Int) != 3) = false := by rw [bne_eq_false_iff_eq]; omega
        have o3n : (on != 3) = false := by rw [bne_eq_false_iff_eq]; omega
        have HO := hid h3
        clear h3
        cases hkk : kz ⟨kn, kh, kl⟩
        · cases kn
          · by_cases hh0 : kh = 0
            · subst hh0
              by_cases hl0 : kl = 0
              · subst hl0
                exact absurd hkk (by decide)
              have gl : ((kl : Int) != 0) = true := by rw [bne_iff_ne]; omega
              have gln : (kl != 0) = true := by rw [bne_iff_ne]; omega
              have gm : ((kl : Int) == 0) = false := by rw [beq_eq_false_iff_ne]; omega
              have gmn : (kl == 0) = false := by rw [beq_eq_false_iff_ne]; omega
              have s4 : w5.cell? ⟨sb, 4, none⟩ = some (.int .u64 0) := s4
              clear hl0
              as_aux_lemma =>
              have G := hid (HBX.out (by
                unfold plainB
                simp only
                rw [if_neg (by omega), if_neg (by omega), if_pos (by have := HO.out; omega), hkk]; simp))
              go_wp2
              go_ret2
              exact ⟨by rw [G.out.1, G.out.2]; rfl, HK5.out⟩
            have gl : ((kh : Int) != 0) = true := by rw [bne_iff_ne]; omega
            have gln : (kh != 0) = true := by rw [bne_iff_ne]; omega
            have gm : ((kh : Int) == 0) = false := by rw [beq_eq_false_iff_ne]; omega
            have gmn : (kh == 0) = false := by rw [beq_eq_false_iff_ne]; omega
            clear hh0
            as_aux_lemma =>
            have G := hid (HBX.out (by
              unfold plainB
              simp only
              rw [if_neg (by omega), if_neg (by omega), if_pos (by have := HO.out; omega), hkk]; simp))
            go_wp2
            go_ret2
            exact ⟨by rw [G.out.1, G.out.2]; rfl, HK5.out⟩
          · as_aux_lemma =>
            have G := hid (HBX.out (by
              unfold plainB
              simp only
              rw [if_neg (by omega), if_neg (by omega), if_pos (by have := HO.out; omega), hkk]; simp))
            go_wp2
            go_ret2
            exact ⟨by rw [G.out.1, G.out.2]; rfl, HK5.out⟩
        obtain ⟨rfl, rfl, rfl⟩ : kn = false ∧ kh = 0 ∧ kl = 0 := by
          have h := kz_zero hkk
          injection h with h1 h2 h3
          exact ⟨h1, h2, h3⟩
        have s4 : w5.cell? ⟨sb, 4, none⟩ = some (.int .u64 0) := s4
        have s5 : w5.cell? ⟨sb, 5, none⟩ = some (.int .u64 0) := s5
        by_cases h1b : bn = 0
        rotate_left
        · have gb : ((bn : Int) != 0) = true := by rw [bne_iff_ne]; omega
          have gbn : (bn != 0) = true := by rw [bne_iff_ne]; omega
          as_aux_lemma =>
          have G := hid (HBX.out (by
            unfold plainB
            simp only
            rw [if_neg (by omega), if_neg (by omega), if_pos (by have := HO.out; omega), decide_eq_false (show ¬ (bn : Int) = 0 by omega)]; simp))
          go_wp2
          go_ret2
          exact ⟨by rw [G.out.1, G.out.2]; rfl, HK5.out⟩
        have gb : ((bn : Int) != 0) = false := by rw [bne_eq_false_iff_eq]; omega
        have gbn : (bn != 0) = false := by rw [bne_eq_false_iff_eq]; omega
        have Hh1b := hid h1b
        clear h1b
        have HPX := hid (HPN.out (by
          unfold plainB
          simp only
          rw [if_neg (by omega), if_neg (by omega), if_pos (by have := HO.out; omega), decide_eq_true (show (bn : Int) = 0 by have := Hh1b.out; omega), hkk]
          rfl))
        go_upto_region 12 with fail
        rw [← hw6]
        clear hw6 hcv s0 s1 s2 s3 s4 s5 e6
        have s0 := cell_of HC6.out (i := 0) (by rfl)
        have s1 := cell_of HC6.out (i := 1) (by rfl)
        have s2 := cell_of HC6.out (i := 2) (by rfl)
        have s3 := cell_of HC6.out (i := 3) (by rfl)
        have s4 := cell_of HC6.out (i := 4) (by rfl)
        have s5 := cell_of HC6.out (i := 5) (by rfl)
        have q1 : ((on : Int) == 1) = false := by rw [beq_eq_false_iff_ne]; omega
        have q1n : (on == 1) = false := by rw [beq_eq_false_iff_ne]; omega
        have q2 : ((on : Int) == 2) = false := by rw [beq_eq_false_iff_ne]; omega
        have q2n : (on == 2) = false := by rw [beq_eq_false_iff_ne]; omega
        have q3 : ((on : Int) == 3) = true := by rw [beq_iff_eq]; have := HO.out; omega
        have q3n : (on == 3) = true := by rw [beq_iff_eq]; have := HO.out; omega
        obtain ⟨ab, hab⟩ : ∃ ab, bsB (leL 1 an) = ab := ⟨_, rfl⟩
        have has : ab.size ≤ 1 := by rw [← hab, bs_size, leL_len]; exact Nat.le_refl _
        have y2 : ¬ (9223372036854775807 < sk.size + ob.size + ab.size) := by omega
        obtain ⟨w7, hw7, hb7, hs7, hk7⟩ := box1 w6 #[.int .u8 (an : Int)] 5
        have hcv := one_bs w6 an la0
        rw [hab] at hcv
        have HK7L := hid (HK6L.out.trans hk7)
        have HFIN : Hid (sk ++ ob ++ ab = bsB (leL 1 code.length ++ (code.take (k + 1)).flatMap insL)) := hid (by
          have e2 : on = 3 := HO.out
          rw [HNX.out, show ((on : Nat) : Int) = 3 by rw [e2]; rfl, insL_3, UA.out, ← HSK.out, ← HOB.out, ← hab, e2, bs_app, bs_app]
          simp only [List.append_assoc])
        clear hab hb7 hs7 hk7 h1 h2 HPN
        go_upto_region 7 with fail
        rw [← hw7]
        clear hw7 hcv
        go_wp2
        go_roundw
        case rel => exact ⟨k + 1, by omega, by go_num, by rw [HFIN.out], HPX.out, HK7L.out⟩
        case measure => simp [RowKit.intOf]; omega
      have o3 : ((on : Int) != 3) = true := by rw [bne_iff_ne]; omega
      have o3n : (on != 3) = true := by rw [bne_iff_ne]; omega
      cases hkk : kz ⟨kn, kh, kl⟩
      · cases kn
        · by_cases hh0 : kh = 0
          · subst hh0
            by_cases hl0 : kl = 0
            · subst hl0
              exact absurd hkk (by decide)
            have gl : ((kl : Int) != 0) = true := by rw [bne_iff_ne]; omega
            have gln : (kl != 0) = true := by rw [bne_iff_ne]; omega
            have gm : ((kl : Int) == 0) = false := by rw [beq_eq_false_iff_ne]; omega
            have gmn : (kl == 0) = false := by rw [beq_eq_false_iff_ne]; omega
            have s4 : w5.cell? ⟨sb, 4, none⟩ = some (.int .u64 0) := s4
            clear hl0
            as_aux_lemma =>
            have G := hid (HBX.out (by
              unfold plainB
              simp only
              rw [if_neg (by omega), if_neg (by omega), if_neg (by omega), hkk]; simp))
            go_wp2
            go_ret2
            exact ⟨by rw [G.out.1, G.out.2]; rfl, HK5.out⟩
          have gl : ((kh : Int) != 0) = true := by rw [bne_iff_ne]; omega
          have gln : (kh != 0) = true := by rw [bne_iff_ne]; omega
          have gm : ((kh : Int) == 0) = false := by rw [beq_eq_false_iff_ne]; omega
          have gmn : (kh == 0) = false := by rw [beq_eq_false_iff_ne]; omega
          clear hh0
          as_aux_lemma =>
          have G := hid (HBX.out (by
            unfold plainB
            simp only
            rw [if_neg (by omega), if_neg (by omega), if_neg (by omega), hkk]; simp))
          go_wp2
          go_ret2
          exact ⟨by rw [G.out.1, G.out.2]; rfl, HK5.out⟩
        · as_aux_lemma =>
          have G := hid (HBX.out (by
            unfold plainB
            simp only
            rw [if_neg (by omega), if_neg (by omega), if_neg (by omega), hkk]; simp))
          go_wp2
          go_ret2
          exact ⟨by rw [G.out.1, G.out.2]; rfl, HK5.out⟩
      obtain ⟨rfl, rfl, rfl⟩ : kn = false ∧ kh = 0 ∧ kl = 0 := by
        have h := kz_zero hkk
        injection h with h1 h2 h3
        exact ⟨h1, h2, h3⟩
      have s4 : w5.cell? ⟨sb, 4, none⟩ = some (.int .u64 0) := s4
      have s5 : w5.cell? ⟨sb, 5, none⟩ = some (.int .u64 0) := s5
      by_cases h1b : bn = 0
      rotate_left
      · have gb : ((bn : Int) != 0) = true := by rw [bne_iff_ne]; omega
        have gbn : (bn != 0) = true := by rw [bne_iff_ne]; omega
        as_aux_lemma =>
        have G := hid (HBX.out (by
          unfold plainB
          simp only
          rw [if_neg (by omega), if_neg (by omega), if_neg (by omega), decide_eq_false (show ¬ (bn : Int) = 0 by omega)]; simp))
        go_wp2
        go_ret2
        exact ⟨by rw [G.out.1, G.out.2]; rfl, HK5.out⟩
      have gb : ((bn : Int) != 0) = false := by rw [bne_eq_false_iff_eq]; omega
      have gbn : (bn != 0) = false := by rw [bne_eq_false_iff_eq]; omega
      have Hh1b := hid h1b
      clear h1b
      by_cases h1a : an = 0
      rotate_left
      · have ga : ((an : Int) != 0) = true := by rw [bne_iff_ne]; omega
        have gan : (an != 0) = true := by rw [bne_iff_ne]; omega
        as_aux_lemma =>
        have G := hid (HBX.out (by
          unfold plainB
          simp only
          rw [if_neg (by omega), if_neg (by omega), if_neg (by omega), decide_eq_false (show ¬ (an : Int) = 0 by omega)]; simp))
        go_wp2
        go_ret2
        exact ⟨by rw [G.out.1, G.out.2]; rfl, HK5.out⟩
      have ga : ((an : Int) != 0) = false := by rw [bne_eq_false_iff_eq]; omega
      have gan : (an != 0) = false := by rw [bne_eq_false_iff_eq]; omega
      have Hh1a := hid h1a
      clear h1a
      have HPX := hid (HPN.out (by
        unfold plainB
        simp only
        rw [if_neg (by omega), if_neg (by omega), if_neg (by omega), decide_eq_true (show (an : Int) = 0 by have := Hh1a.out; omega), decide_eq_true (show (bn : Int) = 0 by have := Hh1b.out; omega), hkk]
        rfl))
      have HFIN : Hid (sk ++ ob = bsB (leL 1 code.length ++ (code.take (k + 1)).flatMap insL)) := hid (by
        rw [HNX.out, insL_o _ _ _ (by omega) (by omega) (by omega), UO.out, ← HSK.out, ← HOB.out, bs_app, List.append_assoc])
      go_upto_region 12 with fail
      rw [← hw6]
      clear hw6 hcv s0 s1 s2 s3 s4 s5 e6
      have s0 := cell_of HC6.out (i := 0) (by rfl)
      have s1 := cell_of HC6.out (i := 1) (by rfl)
      have s2 := cell_of HC6.out (i := 2) (by rfl)
      have s3 := cell_of HC6.out (i := 3) (by rfl)
      have s4 := cell_of HC6.out (i := 4) (by rfl)
      have s5 := cell_of HC6.out (i := 5) (by rfl)
      have q1 : ((on : Int) == 1) = false := by rw [beq_eq_false_iff_ne]; omega
      have q1n : (on == 1) = false := by rw [beq_eq_false_iff_ne]; omega
      have q2 : ((on : Int) == 2) = false := by rw [beq_eq_false_iff_ne]; omega
      have q2n : (on == 2) = false := by rw [beq_eq_false_iff_ne]; omega
      have q3 : ((on : Int) == 3) = false := by rw [beq_eq_false_iff_ne]; omega
      have q3n : (on == 3) = false := by rw [beq_eq_false_iff_ne]; omega
      clear h1 h2 h3 HPN
      go_wp2
      go_roundw
      case rel => exact ⟨k + 1, by omega, by go_num, by rw [HFIN.out], HPX.out, HK6L.out⟩
      case measure => simp [RowKit.intOf]; omega
    · obtain rfl : k = code.length := by omega
      have g0 : decide ((code.length : Int) < (code.length : Int)) = false := decide_eq_false (by omega)
      have G := hid (HGOOD.out (by have h := HPL.out; rw [List.take_length] at h; exact h))
      rw [List.take_length]
      go_wp2
      go_ret2
      exact ⟨by rw [G.out.1, G.out.2]; rfl, HKR.out⟩
end Go.Proofs.YtlhdofkgcbmnnaaGreatDoor
