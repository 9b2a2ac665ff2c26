/- What is proved: the reference's Text. -/
import Derived.Test.YtlhdofkgcbmnnaaGreatDoorMRf1Sub
import Derived.Test.YtlhdofkgcbmnnaaGreatDoorMJoinLaw
import Derived.Test.YtlhdofkgcbmnnaaGreatDoorMWideText
import Derived.Test.YtlhdofkgcbmnnaaGreatDoorMRf12a
import Derived.Test.YtlhdofkgcbmnnaaGreatDoorMExClo2
import Derived.Test.YtlhdofkgcbmnnaaGreatDoorMRuFind
namespace Go.Proofs.YtlhdofkgcbmnnaaGreatDoor
open Go.RowKit Go.Proofs.Heap Go.Proofs.Sch Go.Proofs.Wide

/-- A load whose guard says yes and whose answer is known. -/
theorem wpList_load_want {P : Program} {ops : Array Oper} {rest : List Oper} {o : Oper} {a : Act} {w : World} {Q : Exit → Act → World → Prop} (hw : Region.wanted o (yielded ops a.tmps) = true) (ty : TypeId) (x : Operand) (ho : o.op = .load ty x)
    (ad : Addr) (hx : a.eval x = .pointer (some ad)) (v : Value) (hl : (loadVar ty ad).run P w = .ok v w) (h : wpList P ops Q rest (a.put o.dst v) w) : wpList P ops Q (o :: rest) a w :=
  BigFrame.wpList_want hw fun _ hK => by
    unfold Oper.wp execOp
    simp only [ho, hx, Instr.loadAt, Instr.sureAddr, Sem.run_bind, Sem.run_pure, Result.andThen_ok, hl]
    exact hK _ _ h
theorem dg_ten : (fun j => if j = 0 then 10 else (0 : Nat)) = dgN 10 := by
  funext j
  unfold dgN
  by_cases h : j = 0
  · subst h; rfl
  · rw [if_neg h, Nat.div_eq_of_lt (Nat.lt_of_lt_of_le (show 10 < 256 ^ 1 by decide) (Nat.pow_le_pow_right (by decide) (by omega)))]
theorem dg_low10 {d : Nat} (h : d < 10) : dgN d 0 = d := by unfold dgN; rw [Nat.pow_zero, Nat.div_one]; omega
def msX (u : Nat) (S : ByteArray) : Nat := 2 * u + (if S.size = 0 then 1 else 0)
theorem msX_lt {u : Nat} {S : ByteArray} {c : UInt8} (h : S.size = 0 ∨ u ≠ 0) : msX (u / 10) (⟨#[c]⟩ ++ S) < msX u S := by
  have hns : (⟨#[c]⟩ ++ S : ByteArray).size ≠ 0 := by rw [ByteArray.size_append]; have : (⟨#[c]⟩ : ByteArray).size = 1 := rfl; omega
  unfold msX
  rw [if_neg hns]
  rcases h with h | h
  · rw [if_pos h]; omega
  · split <;> omega
def lenS : Value → Nat
  | .string b => b.size
  | _ => 0

set_option maxRecDepth 20000 in
set_option maxHeartbeats 16000000 in
theorem r_text01 (x : WI) (hx : x.fit) (w : World) :
    Calls Tryz.prog 82 #[WV x] w fun r w' => r = .returned (.string (textW x)) ∧ Keep (fun _ => False) w w' := by
  have HFX := hid hx
  clear hx
  obtain ⟨w1, hw1, hb1, hs1, hk1⟩ := box1 w (WC x) 64
  have HX1 := hid hb1; have HK1 := hid hk1
  clear hb1 hs1 hk1
  have hz := zero_num
  have hsz := nC_size false (fun _ => 0)
  have HT : Hid (textW x = if x.form = true then ⟨(if x.neg = true then 45 :: Lib.decDigits x.mag else Lib.decDigits x.mag).toArray⟩ else ⟨#[]⟩) := hid rfl
  generalize textW x = T at *
  have HM40 := hid (Nat.lt_trans (show x.mag < 256 ^ 16 from mag_lt HFX.out) (Nat.pow_lt_pow_right (show 1 < 256 by decide) (show 16 < 40 by decide)))
  have HL39 := hid (decX_len 39 x.mag (by decide) (mag39 HFX.out))
  go_enter Tryz.func82, Tryz.ntmps82
  go_upto_region 1 with fail
  rw [← hw1]
  clear hw1
  generalize hsb : w.heap.size = sb at *
  have HSB := hid hsb
  clear hsb
  have s0 : w1.cell? ⟨sb, 0, none⟩ = some (.bool x.neg) := cell_of HX1.out (by rfl)
  have s1 : w1.cell? ⟨sb, 1, none⟩ = some (.int .u64 (x.hi : Int)) := cell_of HX1.out (by rfl)
  have s2 : w1.cell? ⟨sb, 2, none⟩ = some (.int .u64 (x.lo : Int)) := cell_of HX1.out (by rfl)
  go_wp2_with fail
  refine (r_good x HFX.out w1).mono ?_
  rintro r w2 ⟨rfl, hk⟩
  have HX2 := hid (hk.get HX1.out id); have HK2 := hid (HK1.out.trans hk)
  clear hk s0 s1 s2
  cases hfx : x.form
  · have G := hid (HT.out.trans (if_neg (by rw [hfx]; simp)))
    clear hfx
    go_wp2
    go_ret
    exact ⟨by rw [G.out]; rfl, HK2.out⟩
  have HT2 := hid (HT.out.trans (if_pos hfx))
  clear hfx HT
  have s0 : w2.cell? ⟨sb, 0, none⟩ = some (.bool x.neg) := cell_of HX2.out (by rfl)
  have s1 : w2.cell? ⟨sb, 1, none⟩ = some (.int .u64 (x.hi : Int)) := cell_of HX2.out (by rfl)
  have s2 : w2.cell? ⟨sb, 2, none⟩ = some (.int .u64 (x.lo : Int)) := cell_of HX2.out (by rfl)
  go_wp2_with fail
  refine (r_from x HFX.out w2).mono ?_
  rintro r w3 ⟨rfl, hk⟩
  have HX3 := hid (hk.get HX2.out id); have HK3 := hid (HK2.out.trans hk)
  clear hk s0 s1 s2
  obtain ⟨M, hM⟩ : ∃ M, x.mag = M := ⟨_, rfl⟩
  rw [hM] at HT2 HM40 HL39 ⊢
  clear hM
  have nA := heap_alloc_new w3 (.cells (nC false (fun _ => 0)) 159)
  have kA := (Keep.refl (fun _ => False) w3).alloc (.cells (nC false (fun _ => 0)) 159)
  obtain ⟨w4, hst, hN, hks⟩ := num_store nA x.neg (dgN M)
  have hkk : Keep (fun _ => False) w3 w4 := kA.trans' hks (fun i hi e => by omega)
  have HN4 := hid hN
  have HX4 := hid (hkk.get HX3.out id); have HK4 := hid (HK3.out.trans hkk)
  have HL1 : Hid (sb < w3.heap.size) := hid (lt_of_heap HX3.out)
  clear nA kA hN hks hkk
  have hszn := nC_size x.neg (dgN M)
  go_upto_region 4 with fail
  clear hst hszn
  generalize w3.heap.size = nq at *
  have c0 := HN4.out.neg
  have f0 := HN4.out.free 0
  have HN5 := hid (HN4.out.sign false)
  have hks := (Keep.refl (fun q => q = nq) w4).setCell (p := ⟨nq, 0, none⟩) rfl (.bool false)
  have HX5 := hid (hks.get HX4.out (by have := HL1.out; omega)); have HK5 := hid (HK4.out.trans' hks (fun i hi e => by have := HL1.out; have := HSB.out; omega))
  clear hks
  go_upto_region 5 with fail
  clear c0 f0
  generalize w4.setCell ⟨nq, 0, none⟩ (.bool false) = w5 at *
  have nA := heap_alloc_new w5 (.cells (nC false (fun _ => 0)) 159)
  have kA := (Keep.refl (fun _ => False) w5).alloc (.cells (nC false (fun _ => 0)) 159)
  obtain ⟨w6, hst, hN, hks⟩ := num_store nA false (fun _ => 0)
  have hkk : Keep (fun _ => False) w5 w6 := kA.trans' hks (fun i hi e => by omega)
  have HT6 := hid hN
  have HX6 := hid (hkk.get HX5.out id); have HK6 := hid (HK5.out.trans hkk); have HN6 := hid (HN5.out.keep hkk id)
  have HL2 : Hid (nq < w5.heap.size) := hid (lt_of_heap HN5.out)
  clear nA kA hN hks hkk
  go_upto_region 6 with fail
  clear hst
  generalize w5.heap.size = tq at *
  have c0 := HT6.out.dig 0 (by omega)
  have f0 := HT6.out.free 1
  have c1 : w6.cell? ⟨tq, 1, none⟩ = some (.int .i64 0) := c0
  have HT7 := hid (HT6.out.set 0 10 (by omega))
  rw [dg_ten] at HT7
  have hks := (Keep.refl (fun q => q = tq) w6).setCell (p := ⟨tq, 1 + 0, none⟩) rfl (iV 10)
  have HX7 := hid (hks.get HX6.out (by have := HL1.out; have := HL2.out; omega)); have HK7 := hid (HK6.out.trans' hks (fun i hi e => by have := HL1.out; have := HL2.out; have := HSB.out; omega)); have HN7 := hid (HN6.out.keep hks (by have := HL2.out; omega))
  clear hks
  have HST : Hid (w6.setCell ⟨tq, 1 + 0, none⟩ (iV 10) = w6.setCell ⟨tq, 1, none⟩ (.int .i64 10)) := hid rfl
  rw [HST.out] at HT7 HX7 HK7 HN7
  go_upto_region 7 with fail
  clear c0 c1 f0 HST
  generalize w6.setCell ⟨tq, 1, none⟩ (.int .i64 10) = w7 at *
  go_wp2_with fail
  have HQ := hid (And.intro HL1.out HL2.out)
  clear HL1 HL2
  go_loopw [5, 6, 7] (fun s _ _ wr => ∃ (u : Nat) (S : ByteArray), s = .string S ∧ u ≤ M ∧ Dg M u S.data.toList ∧ NI false (dgN u) wr nq ∧ Keep (fun q => q = nq) w7 wr) (fun s _ _ _ => 41 - lenS s)
  case atStart => exact ⟨M, ⟨#[]⟩, rfl, Nat.le_refl _, .inl ⟨rfl, rfl⟩, HN7.out, Keep.refl _ _⟩
  case round =>
    clear HN7
    obtain ⟨u, S, rfl, hul, hdg, hn, hkr⟩ := hrel
    have HD := hid hdg; have HKR := hid hkr; have HN := hid hn; have HUL := hid hul
    have hsz : S.size ≤ 39 := by have h1 := hdg.len; have h2 := HL39.out; rw [← size_eq] at h1; omega
    have HU40 : Hid (u < 256 ^ 40) := hid (Nat.lt_of_le_of_lt hul HM40.out)
    have HTR := hid (HT7.out.keep hkr (by have := HQ.out; omega))
    clear hdg hkr hn hul
    by_cases hz0 : S.size = 0
    · have e1 : S.toList.isEmpty = true := empty_yes hz0
      have HNEXT := hid (HD.out.next (.inl (List.eq_nil_of_length_eq_zero (by rw [← size_eq]; exact hz0))))
      clear hz0
      generalize wr = we at *
      have HN1 := HN; have HT1 := HTR; have HK1w := HKR
      have HDV := hid (r_div false false u 10 HU40.out (by decide) (Nat.lt_of_lt_of_le (show 10 < 256 ^ 1 by decide) (Nat.pow_le_pow_right (by decide) (by decide))) we)
      go_wp2_with (first
        | (refine wpList_load_row rfl 159 _ rfl _ rfl _ _ _ _ HN1.out Tryz.underlying159 rfl (by rw [info_num, nC_size]) ?_)
        | (refine wpList_load_row rfl 159 _ rfl _ rfl _ _ _ _ HT1.out Tryz.underlying159 rfl (by rw [info_num, nC_size]) ?_)
        | fail)
      refine HDV.out.mono ?_
      rintro r wg ⟨rfl, hk⟩
      have HN2 := hid (HN1.out.keep hk id); have HT2' := hid (HT1.out.keep hk id); have HK2' := hid (HK1w.out.trans (hk.mono (T := fun q => q = nq) (fun _ _ e => e.elim)))
      clear hk HDV
      have hz := zero_num
      have hsz0 := nC_size false (fun _ => 0)
      obtain ⟨q10, hq10⟩ : ∃ q, u / 10 = q := ⟨_, rfl⟩
      obtain ⟨d, hd⟩ : ∃ d, u % 10 = d := ⟨_, rfl⟩
      have hd10 : d < 10 := by omega
      have hqu : q10 ≤ u := by omega
      have HNX := HNEXT
      rw [hq10, hd] at HNX ⊢
      have HQU : Hid (q10 ≤ M) := hid (by have := HUL.out; omega)
      clear hq10 hd hqu
      have nP := heap_alloc_new wg (.cells (nC false (fun _ => 0)) 159)
      have kP := (Keep.refl (fun _ => False) wg).alloc (.cells (nC false (fun _ => 0)) 159)
      obtain ⟨wp, hwp⟩ : ∃ wp, wg.alloc (.cells (nC false (fun _ => 0)) 159) = wp := ⟨_, rfl⟩
      have sP : wp.heap.size = wg.heap.size + 1 := by rw [← hwp]; simp
      have nQ := heap_alloc_new wp (.cells (nC false (fun _ => 0)) 159)
      have kQ := (Keep.refl (fun _ => False) wp).alloc (.cells (nC false (fun _ => 0)) 159)
      rw [sP] at nQ
      rw [hwp] at nP kP
      obtain ⟨wq, hst1, hN1, hks1⟩ := num_store (b := false) (D := fun _ => 0) (kQ.get nP id) false (dgN q10)
      obtain ⟨wh, hst2, hN2, hks2⟩ := num_store (b := false) (D := fun _ => 0) (hks1.get nQ (by omega)) false (dgN d)
      have hkk : Keep (fun _ => False) wg wh := ((kP.trans kQ).trans' hks1 (fun i hi e => by omega)).trans' hks2 (fun i hi e => by omega)
      have HP3 : Hid (NI false (dgN q10) wh wg.heap.size) := hid (hks2.get hN1 (by omega))
      have HQ3 : Hid (NI false (dgN d) wh (wg.heap.size + 1)) := hid hN2
      have HN3 := hid (HN2.out.keep hkk id); have HT3 := hid (HT2'.out.keep hkk id); have HK3' := hid (HK2'.out.trans (hkk.mono (T := fun q => q = nq) (fun _ _ e => e.elim)))
      have HPN : Hid (nq < wg.heap.size) := hid (lt_of_heap HN2.out)
      rw [← hwp] at hst1
      clear nP kP sP nQ kQ hN1 hks1 hN2 hks2 hkk hwp
      have hs1 := nC_size false (dgN q10)
      have hs2 := nC_size false (dgN d)
      go_upto_region 10 with fail
      clear hst1 hst2 hz hsz0 hs1 hs2
      generalize wg.heap.size = pq at *
      have cd : wh.cell? ⟨pq + 1, 1, none⟩ = some (.int .i64 (d : Int)) := by
        have h := HQ3.out.dig 0 (by omega)
        rw [dg_low10 hd10] at h
        exact h
      have hbs := byte_str wh d hd10
      obtain ⟨wi, hwi, hbi, hsi, hki⟩ := box1 wh #[.int .u8 (48 + (d : Int))] 5
      have hw8 : IntKind.u8.wrap (48 + (d : Int)) = 48 + (d : Int) := by simp [IntKind.wrap, IntKind.bits, IntKind.signed]; omega
      have HN4 := hid (HN3.out.keep hki id); have HK4' := hid (HK3'.out.trans (hki.mono (T := fun q => q = nq) (fun _ _ e => e.elim))); have HP4 := hid (HP3.out.keep hki id)
      clear hbi hsi hki
      generalize UInt8.ofNat (48 + d) = c at *
      have y1 : ¬ (9223372036854775807 < 1 + S.size) := by omega
      go_upto_region 11 with fail
      rw [← hwi]
      clear hwi hbs cd hw8
      obtain ⟨wj, hst, hN5, hks5⟩ := num_store HN4.out false (dgN q10)
      have HN5 := hid hN5
      have HK5' := hid (HK4'.out.trans hks5)
      clear hN5 hks5
      go_wp2_with (refine wpList_load_row rfl 159 _ rfl _ rfl _ _ _ _ HP4.out Tryz.underlying159 rfl (by rw [info_num, nC_size]) ?_)
      go_roundw
      case rel => exact ⟨q10, ⟨#[c]⟩ ++ S, rfl, HQU.out, by rw [ByteArray.data_append, Array.toList_append]; exact HNX.out, HN5.out, HK5'.out⟩
      case measure =>
        have : (⟨#[c]⟩ : ByteArray).size = 1 := rfl
        simp only [lenS, ByteArray.size_append]
        omega
    · have e1 : S.toList.isEmpty = false := empty_no hz0
      have HZR := hid (r_zero false u HU40.out wr)
      by_cases hu0 : u = 0
      · have HE := hid (HD.out.end (fun h => hz0 (by rw [size_eq, h]; rfl)) hu0)
        rw [decide_eq_true hu0] at HZR
        clear hu0 hz0
        go_wp2_with (refine wpList_load_want (by rfl) 159 _ rfl _ rfl _ HN.out.load ?_)
        refine HZR.out.mono ?_
        rintro r we ⟨rfl, hk⟩
        have HKE := hid (HK7.out.trans' (HKR.out.trans (hk.mono (T := fun q => q = nq) (fun _ _ e => e.elim))) (fun i hi e => by have := HQ.out; have := HSB.out; omega))
        have HXE := hid (hk.get (HKR.out.get HX7.out (by have := HQ.out; omega)) id)
        clear hk HZR
        have s0 : we.cell? ⟨sb, 0, none⟩ = some (.bool x.neg) := cell_of HXE.out (by rfl)
        have y1 : ¬ (9223372036854775807 < 1 + S.size) := by omega
        have HCS := hid (cons_str S)
        cases hng : x.neg
        · rw [hng] at s0
          have G : Hid (T = S) := hid (HT2.out.trans (by rw [hng, ← HE.out]; rfl))
          clear hng
          go_wp2
          go_ret
          exact ⟨by rw [G.out]; rfl, HKE.out⟩
        · rw [hng] at s0
          have G : Hid (T = ⟨(45 :: S.data.toList).toArray⟩) := hid (HT2.out.trans (by rw [hng, ← HE.out]; rfl))
          clear hng
          go_wp2
          go_ret
          exact ⟨by rw [G.out]; rfl, HKE.out⟩
      · have HNEXT := hid (HD.out.next (.inr hu0))
        rw [decide_eq_false hu0] at HZR
        clear hu0 hz0
        go_wp2_with (refine wpList_load_want (by rfl) 159 _ rfl _ rfl _ HN.out.load ?_)
        refine HZR.out.mono ?_
        rintro r we ⟨rfl, hk⟩
        have HN1 := hid (HN.out.keep hk id); have HT1 := hid (HTR.out.keep hk id); have HK1w := hid (HKR.out.trans (hk.mono (T := fun q => q = nq) (fun _ _ e => e.elim)))
        clear hk HZR
        have HDV := hid (r_div false false u 10 HU40.out (by decide) (Nat.lt_of_lt_of_le (show 10 < 256 ^ 1 by decide) (Nat.pow_le_pow_right (by decide) (by decide))) we)
        go_wp2_with (first
          | (refine wpList_load_row rfl 159 _ rfl _ rfl _ _ _ _ HN1.out Tryz.underlying159 rfl (by rw [info_num, nC_size]) ?_)
          | (refine wpList_load_row rfl 159 _ rfl _ rfl _ _ _ _ HT1.out Tryz.underlying159 rfl (by rw [info_num, nC_size]) ?_)
          | fail)
        refine HDV.out.mono ?_
        rintro r wg ⟨rfl, hk⟩
        have HN2 := hid (HN1.out.keep hk id); have HT2' := hid (HT1.out.keep hk id); have HK2' := hid (HK1w.out.trans (hk.mono (T := fun q => q = nq) (fun _ _ e => e.elim)))
        clear hk HDV
        have hz := zero_num
        have hsz0 := nC_size false (fun _ => 0)
        obtain ⟨q10, hq10⟩ : ∃ q, u / 10 = q := ⟨_, rfl⟩
        obtain ⟨d, hd⟩ : ∃ d, u % 10 = d := ⟨_, rfl⟩
        have hd10 : d < 10 := by omega
        have hqu : q10 ≤ u := by omega
        have HNX := HNEXT
        rw [hq10, hd] at HNX ⊢
        have HQU : Hid (q10 ≤ M) := hid (by have := HUL.out; omega)
        clear hq10 hd hqu
        have nP := heap_alloc_new wg (.cells (nC false (fun _ => 0)) 159)
        have kP := (Keep.refl (fun _ => False) wg).alloc (.cells (nC false (fun _ => 0)) 159)
        obtain ⟨wp, hwp⟩ : ∃ wp, wg.alloc (.cells (nC false (fun _ => 0)) 159) = wp := ⟨_, rfl⟩
        have sP : wp.heap.size = wg.heap.size + 1 := by rw [← hwp]; simp
        have nQ := heap_alloc_new wp (.cells (nC false (fun _ => 0)) 159)
        have kQ := (Keep.refl (fun _ => False) wp).alloc (.cells (nC false (fun _ => 0)) 159)
        rw [sP] at nQ
        rw [hwp] at nP kP
        obtain ⟨wq, hst1, hN1, hks1⟩ := num_store (b := false) (D := fun _ => 0) (kQ.get nP id) false (dgN q10)
        obtain ⟨wh, hst2, hN2, hks2⟩ := num_store (b := false) (D := fun _ => 0) (hks1.get nQ (by omega)) false (dgN d)
        have hkk : Keep (fun _ => False) wg wh := ((kP.trans kQ).trans' hks1 (fun i hi e => by omega)).trans' hks2 (fun i hi e => by omega)
        have HP3 : Hid (NI false (dgN q10) wh wg.heap.size) := hid (hks2.get hN1 (by omega))
        have HQ3 : Hid (NI false (dgN d) wh (wg.heap.size + 1)) := hid hN2
        have HN3 := hid (HN2.out.keep hkk id); have HT3 := hid (HT2'.out.keep hkk id); have HK3' := hid (HK2'.out.trans (hkk.mono (T := fun q => q = nq) (fun _ _ e => e.elim)))
        have HPN : Hid (nq < wg.heap.size) := hid (lt_of_heap HN2.out)
        rw [← hwp] at hst1
        clear nP kP sP nQ kQ hN1 hks1 hN2 hks2 hkk hwp
        have hs1 := nC_size false (dgN q10)
        have hs2 := nC_size false (dgN d)
        go_upto_region 10 with fail
        clear hst1 hst2 hz hsz0 hs1 hs2
        generalize wg.heap.size = pq at *
        have cd : wh.cell? ⟨pq + 1, 1, none⟩ = some (.int .i64 (d : Int)) := by
          have h := HQ3.out.dig 0 (by omega)
          rw [dg_low10 hd10] at h
          exact h
        have hbs := byte_str wh d hd10
        obtain ⟨wi, hwi, hbi, hsi, hki⟩ := box1 wh #[.int .u8 (48 + (d : Int))] 5
        have hw8 : IntKind.u8.wrap (48 + (d : Int)) = 48 + (d : Int) := by simp [IntKind.wrap, IntKind.bits, IntKind.signed]; omega
        have HN4 := hid (HN3.out.keep hki id); have HK4' := hid (HK3'.out.trans (hki.mono (T := fun q => q = nq) (fun _ _ e => e.elim))); have HP4 := hid (HP3.out.keep hki id)
        clear hbi hsi hki
        generalize UInt8.ofNat (48 + d) = c at *
        have y1 : ¬ (9223372036854775807 < 1 + S.size) := by omega
        go_upto_region 11 with fail
        rw [← hwi]
        clear hwi hbs cd hw8
        obtain ⟨wj, hst, hN5, hks5⟩ := num_store HN4.out false (dgN q10)
        have HN5 := hid hN5
        have HK5' := hid (HK4'.out.trans hks5)
        clear hN5 hks5
        go_wp2_with (refine wpList_load_row rfl 159 _ rfl _ rfl _ _ _ _ HP4.out Tryz.underlying159 rfl (by rw [info_num, nC_size]) ?_)
        go_roundw
        case rel => exact ⟨q10, ⟨#[c]⟩ ++ S, rfl, HQU.out, by rw [ByteArray.data_append, Array.toList_append]; exact HNX.out, HN5.out, HK5'.out⟩
        case measure =>
          have : (⟨#[c]⟩ : ByteArray).size = 1 := rfl
          simp only [lenS, ByteArray.size_append]
          omega
end Go.Proofs.YtlhdofkgcbmnnaaGreatDoor

namespace Go.Proofs.YtlhdofkgcbmnnaaGreatDoor
open Go.RowKit Go.Proofs.Heap Go.Proofs.Sch

theorem rf_dig (n : Int) (h0 : -9223372036854775808 ≤ n) (h1 : n ≤ 9223372036854775807) (w : World) :
    Calls Tryz.prog 44 #[.int .i64 n] w fun r w' => r = .returned (.string (itB n)) ∧ Keep (fun _ => False) w w' := by
  by_cases h : n < 0
  · obtain ⟨u, rfl⟩ : ∃ u : Nat, n = -(u : Int) := ⟨n.natAbs, by omega⟩
    refine (rf_digits_neg u (by omega) (by omega) w).mono ?_
    rintro r w' ⟨rfl, hk⟩
    refine ⟨?_, hk⟩
    unfold itB Lib.itoa
    rw [if_pos h, show (-(u : Int)).natAbs = u by omega]
  · obtain ⟨u, rfl⟩ : ∃ u : Nat, n = (u : Int) := ⟨n.toNat, by omega⟩
    refine (rf_digits u (by omega) w).mono ?_
    rintro r w' ⟨rfl, hk⟩
    refine ⟨?_, hk⟩
    unfold itB Lib.itoa
    rw [if_neg h, Int.toNat_natCast]

theorem keep_grow {w w' : World} (h : Keep (fun _ => False) w w') (k : Nat) (os : Array Obj) : Keep (fun _ => False) w (Sort.grow (w'.drewN k) os) :=
  ⟨h.os, h.tape, h.output, by rw [Sort.size_grow]; have := h.size; exact Nat.le_trans this (Nat.le_add_right _ _), fun b hb hs => by
    rw [Sort.heap_grow_old _ _ (show b < (w'.drewN k).heap.size from Nat.lt_of_lt_of_le hb h.size)]
    exact h.block b hb hs⟩
theorem tab_keep {name : String} {k : IntKind} {zs : List Int} {w w' : World} (h : Lib.TabIs Tryz.prog w name k zs) (hk : Keep (fun _ => False) w w') : Lib.TabIs Tryz.prog w' name k zs := by
  unfold Lib.TabIs World.var? at h ⊢
  cases hg : Tryz.prog.globalNamed name with
  | none => rw [hg] at h; cases h
  | some g =>
    rw [hg] at h
    simp only [Option.bind_some] at h ⊢
    cases ho : w.heap[g]? with
    | none => rw [ho] at h; cases h
    | some o =>
      rw [hk.get ho id]
      rw [ho] at h
      exact h
theorem it_all (n : Int) (h0 : -9223372036854775808 ≤ n) (h1 : n ≤ 9223372036854775807) (w : World) (htab : Lib.TabIs Tryz.prog w "internal/strconv.uint64pow10" .u64 Lib.pow10Tab) : ItOk n w := by
  refine ⟨?_, fun wy hy => ?_⟩
  · have := Lib.itoa_length_le n h0 h1
    simpa [itB, ByteArray.size] using this
  · refine (Tryz.strconv_Itoa n h0 h1 wy (tab_keep htab hy)).mono ?_
    rintro e w' ⟨rfl, k, os, rfl⟩
    exact ⟨rfl, keep_grow (Keep.refl _ wy) k os⟩
end Go.Proofs.YtlhdofkgcbmnnaaGreatDoor

namespace Go.Proofs.YtlhdofkgcbmnnaaGreatDoor
open Go.RowKit Go.Proofs.Heap Go.Proofs.Sch Go.Proofs.Wide

theorem joinX_one (t : ByteArray) (s : UInt8) : joinB [t] s = t := by
  unfold joinB
  rw [List.map_cons, List.map_nil, Lib.join_one]
theorem joinXTail_app (s : UInt8) (y : List UInt8) : ∀ r : List (List UInt8), Lib.joinTail [s] (r ++ [y]) = Lib.joinTail [s] r ++ (s :: y)
  | [] => by simp [Lib.joinTail]
  | x :: r => by
    have h1 : Lib.joinTail [s] ((x :: r) ++ [y]) = s :: (x ++ Lib.joinTail [s] (r ++ [y])) := rfl
    have h2 : Lib.joinTail [s] (x :: r) = s :: (x ++ Lib.joinTail [s] r) := rfl
    rw [h1, h2, joinXTail_app s y r]
    simp [List.append_assoc]
theorem baX_inj {a b : ByteArray} (h : a.data.toList = b.data.toList) : a = b := ByteArray.ext (Array.toList_inj.1 h)
theorem joinX_next {l : List ByteArray} (t : ByteArray) (s : UInt8) (h : l ≠ []) : joinB (l ++ [t]) s = joinB l s ++ ⟨#[s]⟩ ++ t := by
  cases l with
  | nil => exact absurd rfl h
  | cons x r =>
    apply baX_inj
    rw [ByteArray.data_append, ByteArray.data_append, Array.toList_append, Array.toList_append]
    show Lib.join (((x :: r) ++ [t]).map (·.data.toList)) [s] = Lib.join ((x :: r).map (·.data.toList)) [s] ++ [s] ++ t.data.toList
    rw [List.map_append, List.map_cons, List.map_cons, List.map_nil, List.cons_append, Lib.join_cons, Lib.join_cons, joinXTail_app]
    simp [List.append_assoc]
theorem sumX_le {l : List ByteArray} {M : Nat} (h : ∀ t ∈ l, t.size ≤ M) : sumS l ≤ l.length * M := by
  induction l with
  | nil => simp [sumS]
  | cons x l ih =>
    have e : sumS (x :: l) = x.size + sumS l := by unfold sumS; simp
    have h1 := h x (by simp)
    have h2 := ih (fun t ht => h t (by simp [ht]))
    rw [e, List.length_cons, Nat.succ_mul]
    omega
/-- The words of the operations, as they lie in memory. -/
def wordsE : Array Value := ((List.range 18).map fun (k : Nat) => Value.string (wordX (k : Int))).toArray
theorem wordsE_at {k : Nat} (h : k < 18) : wordsE[k]? = some (.string (wordX (k : Int))) := by simp [wordsE, h]
theorem wordsE_size : wordsE.size = 18 := by simp [wordsE]
theorem wordsE_one : ∀ v ∈ wordsE.toList, v.oneCell' = true := by
  intro v hv
  simp only [wordsE, List.mem_map] at hv
  obtain ⟨j, _, rfl⟩ := hv
  rfl
theorem wordsE_lit : wordsE = #[.string ⟨#[]⟩, .string ⟨#[]⟩, .string ⟨#[]⟩, .string ⟨#[]⟩, .string ⟨#[]⟩, .string ⟨#[97, 100, 100]⟩, .string ⟨#[115, 117, 98]⟩, .string ⟨#[109, 117, 108]⟩, .string ⟨#[113, 117, 111]⟩, .string ⟨#[114, 101, 109]⟩, .string ⟨#[110, 101, 103]⟩, .string ⟨#[108, 101, 97, 115, 116]⟩, .string ⟨#[103, 114, 101, 97, 116]⟩, .string ⟨#[115, 97, 109, 101]⟩, .string ⟨#[108, 101, 115, 115]⟩, .string ⟨#[110, 111, 116]⟩, .string ⟨#[112, 105, 99, 107]⟩, .string ⟨#[110, 101, 101, 100]⟩] := by kernel_rfl
def wordsEZ : Array Value := ((List.range 18).map fun _ => Value.string ⟨#[]⟩).toArray
theorem wordsE_chain : ((((((((((((((((((wordsEZ.toList).set 0 (.string ⟨#[]⟩)).set 1 (.string ⟨#[]⟩)).set 2 (.string ⟨#[]⟩)).set 3 (.string ⟨#[]⟩)).set 4 (.string ⟨#[]⟩)).set 5 (.string ⟨#[97, 100, 100]⟩)).set 6 (.string ⟨#[115, 117, 98]⟩)).set 7 (.string ⟨#[109, 117, 108]⟩)).set 8 (.string ⟨#[113, 117, 111]⟩)).set 9 (.string ⟨#[114, 101, 109]⟩)).set 10 (.string ⟨#[110, 101, 103]⟩)).set 11 (.string ⟨#[108, 101, 97, 115, 116]⟩)).set 12 (.string ⟨#[103, 114, 101, 97, 116]⟩)).set 13 (.string ⟨#[115, 97, 109, 101]⟩)).set 14 (.string ⟨#[108, 101, 115, 115]⟩)).set 15 (.string ⟨#[110, 111, 116]⟩)).set 16 (.string ⟨#[112, 105, 99, 107]⟩)).set 17 (.string ⟨#[110, 101, 101, 100]⟩) = wordsE.toList := by kernel_rfl
theorem wordsEZ_size : wordsEZ.size = 18 := by simp [wordsEZ]
theorem zero_wordsE (w : World) : (zeroValue 142).run Tryz.prog w = .ok (.agg wordsEZ) w := by kernel_rfl
theorem wordsE_store {w : World} {u : Nat} (hu : w.heap[u]? = some (.cells wordsEZ 142 (0, 0))) :
    ∃ w', (storeCells ⟨u, 0, none⟩ wordsE.toList).run Tryz.prog w = .ok () w' ∧ w'.heap[u]? = some (.cells wordsE 142 (0, 0)) ∧ Keep (fun j => j = u) w w' := by
  have h := run_storeCells_at Tryz.prog u 0 _ wordsE.toList 0 _ w hu (by rw [Array.length_toList, wordsE_size, wordsEZ_size]; omega) wordsE_one
  refine ⟨_, h, ?_, ?_⟩
  · refine (setRow_heap w u _ _ _ _ hu).trans ?_
    have e : (List.take 0 wordsEZ.toList ++ wordsE.toList ++ List.drop (0 + wordsE.toList.length) wordsEZ.toList).toArray = wordsE := by
      apply Array.ext'
      have h1 : wordsEZ.toList.length = 18 := by rw [Array.length_toList, wordsEZ_size]
      have h2 : wordsE.toList.length = 18 := by rw [Array.length_toList, wordsE_size]
      simp [h1, h2]
    exact congrArg (fun c => some (Obj.cells c 142 (0, 0))) e
  · exact (Keep.refl (fun j => j = u) w).setRow rfl _
theorem wordsE_new (w : World) :
    ∃ w', (storeCells ⟨w.heap.size, 0, none⟩ wordsE.toList).run Tryz.prog (w.alloc (.cells wordsEZ 142)) = .ok () w' ∧ w'.heap[w.heap.size]? = some (.cells wordsE 142 (0, 0)) ∧ Keep (fun _ => False) w w' ∧ w.heap.size < w'.heap.size := by
  obtain ⟨w', h, hb, hk⟩ := wordsE_store (heap_alloc_new w (.cells wordsEZ 142))
  refine ⟨w', h, hb, keep_new ((Keep.refl _ w).alloc _) hk (fun k e => by omega), ?_⟩
  have := hk.size
  simp at this
  omega

set_option maxRecDepth 20000 in
set_option maxHeartbeats 16000000 in
theorem r_show (code : List Ins) (p : Option Addr) (cap : Nat) (hl : code.length ≤ 64) (hfit : ∀ x ∈ code, x.k.fit) {b : List Ins} (hb : Br b) :
    ∀ (l1 : List Ins) (e : Nat) (w : World), code.take (e + 1) = l1 ++ b → e < code.length → IP w w.heap.size p code →
    Calls Tryz.prog 64 #[.slice p code.length cap, .int .i64 (e : Int)] w fun r w' => r = .returned (.string (shB b)) ∧ Keep (fun _ => False) w w' := by
  induction hb with
  | mk bs x hbs hn hx ih =>
    intro l1 e w he hec hip
    have HX := hid hfit; have HL := hid hl
    have he' : code.take (e + 1) = l1 ++ bs.flatten ++ [x] := by rw [he, List.append_assoc]
    obtain ⟨hkk1, hxk, htk⟩ := take_last he' (by omega)
    obtain ⟨j, hj⟩ : ∃ j, (l1 ++ bs.flatten).length = j := ⟨_, rfl⟩
    rw [hj] at hkk1 hxk htk
    obtain rfl : e = j := by omega
    have HJ := hid hj; have HTK := hid htk; have HBS := hid hbs; have HIH := hid ih; have HIB := hid hx; have HEC := hid hec
    have HIP := hid (fun (wy : World) (hk : Keep (fun _ => False) w wy) => IP.mono (IP.low hip (Low.keep0 hk)) hk.size)
    have HBW := hid (shB_op hbs hn)
    have HNN := hid hn
    have HBR := hid (fun wy hk => r_branches code p cap wy hl (HIP.out wy hk) l1 bs x e hbs hn hx he' hec)
    obtain ⟨R, hR⟩ : ∃ R, shB (bs.flatten ++ [x]) = R := ⟨_, rfl⟩
    rw [hR] at HBW ⊢
    have HKF := hid (hfit x (List.mem_of_getElem? hxk))
    obtain ⟨bb, off, hpe, hbb, c0, c1, c2, c3, c4, c5⟩ := IP.at hip hxk
    subst hpe
    have hin : (0 : Int) ≤ (e : Int) ∧ (e : Int) < (code.length : Int) := ⟨by omega, by omega⟩
    have hl64 : (code.length : Int) ≤ 64 := by omega
    have han : bs.length ≤ 3 := by rw [hn]; exact argsN_le _
    have hop := insB_op hx
    obtain ⟨w1, hw1, hb1, hs1, hk1⟩ := box1 w (InC x) 70
    have HK1 := hid hk1; have HX1 := hid hb1
    clear hb1 hs1 hk1 hR he he' hkk1 hj hxk htk hbs ih hip hn hfit hbb hl
    by_cases h0 : bs.length = 0
    · have HRL : Hid (R = leafT x) := hid (by
        have e1 : bs = [] := List.eq_nil_of_length_eq_zero h0
        have e2 : argsN x.op = 0 := by rw [← HNN.out]; exact h0
        rw [HBW.out]
        unfold insT
        rw [if_pos e2])
      have ho4 : x.op = 1 ∨ x.op = 2 ∨ x.op = 3 ∨ x.op = 4 := by
        have h1 := HNN.out
        rw [h0] at h1
        unfold argsN at h1
        split at h1
        · assumption
        split at h1
        · omega
        split at h1 <;> omega
      have hab := insB_a hx
      clear h0 hop hx HIB HIH HBR HBW HNN HBS HJ HTK han
      obtain ⟨op, xa, xb, ⟨kn, kh, kl⟩⟩ := x
      simp only at ho4 hab c0 c1 c2 c3 c4 c5 HKF HX1 hw1
      obtain ⟨hxa, hxb, _⟩ := hab
      have HDA := hid (fun wy => rf_dig xa (by omega) (by omega) wy)
      have HDB := hid (fun wy => rf_dig xb (by omega) (by omega) wy)
      have zA := it8_size hxa.1 hxa.2
      have zB := it8_size hxb.1 hxb.2
      unfold leafT at HRL
      simp only at HRL
      generalize itB xa = A at *
      generalize itB xb = B at *
      clear hxa hxb
      go_enter Tryz.func64, Tryz.ntmps64
      go_upto_region 2 with fail
      rw [← hw1]
      clear hw1 c0 c1 c2 c3 c4 c5
      generalize w.heap.size = xq at *
      have s0 : w1.cell? ⟨xq, 0, none⟩ = some (.int .i64 op) := cell_of HX1.out (by rfl)
      have s1 : w1.cell? ⟨xq, 1, none⟩ = some (.int .i64 xa) := cell_of HX1.out (by rfl)
      have s2 : w1.cell? ⟨xq, 2, none⟩ = some (.int .i64 xb) := cell_of HX1.out (by rfl)
      have s3 : w1.cell? ⟨xq, 3, none⟩ = some (.bool kn) := cell_of HX1.out (by rfl)
      have s4 : w1.cell? ⟨xq, 4, none⟩ = some (.int .u64 (kh : Int)) := cell_of HX1.out (by rfl)
      have s5 : w1.cell? ⟨xq, 5, none⟩ = some (.int .u64 (kl : Int)) := cell_of HX1.out (by rfl)
      rcases ho4 with rfl | rfl | rfl | rfl
      · have G : Hid (R = textW ⟨kn, kh, kl⟩) := hid (HRL.out.trans (by simp))
        go_wp2_with fail
        refine (r_text01 ⟨kn, kh, kl⟩ HKF.out w1).mono ?_
        rintro r w2 ⟨rfl, hk⟩
        have HK2 := hid (HK1.out.trans hk)
        clear hk s0 s1 s2 s3 s4 s5
        go_wp2
        go_ret
        exact ⟨by rw [G.out]; rfl, HK2.out⟩
      · have G : Hid (R = ⟨#[102]⟩ ++ A ++ ⟨#[46]⟩ ++ B) := hid (HRL.out.trans (by simp))
        have y1 : ¬ (9223372036854775807 < 1 + A.size) := by omega
        have y2 : ¬ (9223372036854775807 < 1 + A.size + 1) := by omega
        have y3 : ¬ (9223372036854775807 < 1 + A.size + 1 + B.size) := by omega
        go_upto_region 6 with fail
        clear s0 s1 s2 s3 s4 s5
        have HKd := hid HK1.out.drew
        have HXd : Hid (w1.drew.heap[xq]? = _) := HX1
        refine Plan.wp_region_pl [(false, 0, []), (false, 1, []), (false, 5, []), (false, 6, []), (true, 2, [6, 5]), (false, 3, []), (false, 4, []), (true, 7, [4, 3]), (false, 8, []), (false, 9, [])] (by as_aux_lemma => kernel_rfl) (by as_aux_lemma => kernel_rfl) ?_
        generalize w1.drew = wd at *
        have s1 : wd.cell? ⟨xq, 1, none⟩ = some (.int .i64 xa) := cell_of HXd.out (by rfl)
        have s2 : wd.cell? ⟨xq, 2, none⟩ = some (.int .i64 xb) := cell_of HXd.out (by rfl)
        iterate 4 (refine Plan.pl_st rfl ?_; go_big_quiet_step (fail); refine wpQuiet_nil ?_)
        refine Plan.pl_ac rfl ?_
        go_wp2_with fail
        refine (HDA.out wd).mono ?_
        rintro r w2 ⟨rfl, hk⟩
        have HK2 := hid (HKd.out.trans hk); have HX2 := hid (hk.get HXd.out id)
        clear hk s1 s2
        have s1 : w2.cell? ⟨xq, 1, none⟩ = some (.int .i64 xa) := cell_of HX2.out (by rfl)
        have s2 : w2.cell? ⟨xq, 2, none⟩ = some (.int .i64 xb) := cell_of HX2.out (by rfl)
        go_wp2
        refine Plan.plQ_mk ?_ ?_
        · iterate 2 (refine Plan.chk_st rfl ?_ ?_; focus (go_big_quiet_step (fail); exact wpQuiet_nil rfl))
          exact Plan.chk_end
        iterate 2 (refine Plan.pl_st rfl ?_; go_big_quiet_step (fail); refine wpQuiet_nil ?_)
        refine Plan.pl_ac rfl ?_
        go_wp2_with fail
        refine (HDB.out w2).mono ?_
        rintro r w3 ⟨rfl, hk⟩
        have HK3 := hid (HK2.out.trans hk); have HX3 := hid (hk.get HX2.out id)
        clear hk s1 s2
        have s1 : w3.cell? ⟨xq, 1, none⟩ = some (.int .i64 xa) := cell_of HX3.out (by rfl)
        have s2 : w3.cell? ⟨xq, 2, none⟩ = some (.int .i64 xb) := cell_of HX3.out (by rfl)
        go_wp2
        refine Plan.plQ_mk ?_ ?_
        · iterate 2 (refine Plan.chk_st rfl ?_ ?_; focus (go_big_quiet_step (fail); exact wpQuiet_nil rfl))
          exact Plan.chk_end
        iterate 2 (refine Plan.pl_st rfl ?_; go_big_quiet_step (fail); refine wpQuiet_nil ?_)
        refine Plan.pl_end ?_
        go_wp2
        go_ret
        exact ⟨by rw [G.out]; rfl, HK3.out⟩
      · have G : Hid (R = ⟨#[102]⟩ ++ A ++ ⟨#[64]⟩) := hid (HRL.out.trans (by simp))
        have y1 : ¬ (9223372036854775807 < 1 + A.size) := by omega
        have y2 : ¬ (9223372036854775807 < 1 + A.size + 1) := by omega
        go_wp2_with fail
        refine (HDA.out w1).mono ?_
        rintro r w2 ⟨rfl, hk⟩
        have HK2 := hid (HK1.out.trans hk)
        clear hk s0 s1 s2 s3 s4 s5
        go_wp2
        go_ret
        exact ⟨by rw [G.out]; rfl, HK2.out⟩
      · have G : Hid (R = ⟨#[64]⟩) := hid (HRL.out.trans (by simp))
        go_wp2
        go_ret
        exact ⟨by rw [G.out]; rfl, HK1.out⟩
    · have hpos : 1 ≤ bs.length := by omega
      have HOP : Hid (5 ≤ x.op ∧ x.op ≤ 17) := hid (by
        have h2 := HNN.out
        refine ⟨?_, hop.2⟩
        refine Int.not_lt.1 fun h3 => ?_
        unfold argsN at h2
        rw [if_pos (by omega)] at h2
        omega)
      have HRI : Hid (R = wordX x.op ++ ⟨#[40]⟩ ++ joinB (bs.map shB) 44 ++ ⟨#[41]⟩) := hid (by
        rw [HBW.out]
        unfold insT
        rw [if_neg (by rw [← HNN.out]; exact h0)])
      have hzw := wordX_size x.op
      obtain ⟨on, hon⟩ := Int.eq_ofNat_of_zero_le (a := x.op) (by omega)
      have hon5 : 5 ≤ on ∧ on < 18 := by have := HOP.out; omega
      have HWC := hid (wordsE_at hon5.2)
      have q1 : (x.op == 1) = false := by rw [beq_eq_false_iff_ne]; omega
      have q2 : (x.op == 2) = false := by rw [beq_eq_false_iff_ne]; omega
      have q3 : (x.op == 3) = false := by rw [beq_eq_false_iff_ne]; omega
      have q4 : (x.op == 4) = false := by rw [beq_eq_false_iff_ne]; omega
      rw [← hon] at HWC
      have HON := hid hon
      clear h0 hop hx hon
      have c1' := c1
      go_enter Tryz.func64, Tryz.ntmps64
      go_upto_region 2 with fail
      rw [← hw1]
      clear hw1 c0 c1 c2 c3 c4 c5 c1'
      generalize w.heap.size = xq at *
      have s0 : w1.cell? ⟨xq, 0, none⟩ = some (.int .i64 x.op) := cell_of HX1.out (by rfl)
      have hz := zero_wordsE
      have hsz := wordsEZ_size
      have hsz2 := wordsE_size
      obtain ⟨w2, hst, hwb, hk2, hlt2⟩ := wordsE_new w1
      have HW2 := hid hwb; have HK2 := hid (HK1.out.trans hk2); have HX2 := hid (hk2.get HX1.out id)
      have hch := wordsE_chain
      clear hwb hk2 hlt2
      go_upto_region 12 with fail
      clear hst hz hsz hsz2 s0 q1 q2 q3 q4 hch
      generalize w1.heap.size = wq at *
      have s0 : w2.cell? ⟨xq, 0, none⟩ = some (.int .i64 (on : Int)) := by rw [← HON.out]; exact cell_of HX2.out (by rfl)
      have cw : w2.cell? ⟨wq, on, none⟩ = some (.string (wordX x.op)) := cell_of HW2.out HWC.out
      have hinw : (0 : Int) ≤ (on : Int) ∧ (on : Int) < 18 := ⟨by omega, by omega⟩
      have HSS : Hid (∀ c ∈ bs, (shB c).size ≤ 2560) := hid (fun c hc => by
        have hmem : ∀ z ∈ c, z ∈ code := fun z hz => by
          have h1 : z ∈ l1 ++ bs.flatten := List.mem_append.2 (.inr (List.mem_flatten.2 ⟨c, hc, hz⟩))
          rw [← HTK.out] at h1
          exact List.mem_of_mem_take h1
        have h1 := shB_size (HBS.out c hc) (fun z hz => HX.out z (hmem z hz))
        have h2 : c.length ≤ 64 := by
          have h3 := congrArg List.length HTK.out
          obtain ⟨l, r, hlr⟩ := List.append_of_mem hc
          rw [List.length_take, List.length_append, hlr, List.flatten_append, List.flatten_cons, List.length_append, List.length_append] at h3
          have := HL.out
          omega
        omega)
      have HJS : Hid (∀ k, (joinB ((bs.take k).map shB) 44).size ≤ 8000) := hid (fun k => by
        have h1 := join_sum 44 ((bs.take k).map shB)
        have h2 := sumX_le (l := (bs.take k).map shB) (M := 2560) (fun t ht => by
          obtain ⟨c, hc, rfl⟩ := List.mem_map.1 ht
          exact HSS.out c (List.mem_of_mem_take hc))
        rw [List.length_map] at h1 h2
        have h3 : (bs.take k).length ≤ 3 := by rw [List.length_take]; omega
        have h4 : (bs.take k).length * 2560 ≤ 3 * 2560 := Nat.mul_le_mul_right _ h3
        omega)
      obtain ⟨WX, hWX⟩ : ∃ W, wordX x.op = W := ⟨_, rfl⟩
      rw [hWX] at HRI hzw cw
      clear hWX
      have y1 : ¬ (9223372036854775807 < WX.size + 1) := by omega
      go_upto_region 13 with fail
      clear s0 cw hinw y1
      go_wp2_with fail
      refine (HBR.out w2 HK2.out).mono ?_
      rintro r w3 ⟨v, rfl, hown, hk⟩
      obtain ⟨vp, vc, rfl⟩ := owns_val hown
      obtain ⟨g, rfl⟩ := owns_some hown (by omega)
      have HOB := hid hown
      have HK3 := hid (HK2.out.trans hk)
      clear hown hk
      go_wp2_with fail
      go_loopw [7, 9] (fun t i wr => ∃ k : Nat, k ≤ bs.length ∧ i = iV k ∧ t = .string (WX ++ ⟨#[40]⟩ ++ joinB ((bs.take k).map shB) 44) ∧ Keep (fun _ => False) w3 wr) (fun _ i _ => bs.length + 1 - (intOf i).toNat)
      case atStart => exact ⟨0, Nat.zero_le _, rfl, by
        have e1 : joinB (([] : List (List Ins)).map shB) 44 = ⟨#[]⟩ := rfl
        rw [List.take_zero, e1]
        congr 1
        apply baX_inj
        rw [ByteArray.data_append, Array.toList_append]
        simp, Keep.refl _ _⟩
      case round =>
        obtain ⟨k, hk, rfl, rfl, hkr⟩ := hrel
        have HKR := hid hkr
        have HKW := hid (HK3.out.trans hkr)
        clear hkr
        have hjs := HJS.out k
        by_cases hlt : k < bs.length
        · obtain ⟨c, hc⟩ : ∃ c, bs[k]? = some c := ⟨bs[k], by simp [hlt]⟩
          have hmem := List.mem_of_getElem? hc
          have hpc := (HBS.out c hmem).pos
          have hea := endsL_at (p := l1.length) hc
          have HTN : Hid (bs.take (k + 1) = bs.take k ++ [c]) := hid (take_next hc)
          have hfl : bs.flatten = (bs.take k).flatten ++ (c ++ (bs.drop (k + 1)).flatten) := by
            conv => lhs; rw [← List.take_append_drop k bs]
            rw [drop_next hc, List.flatten_append, List.flatten_cons]
          obtain ⟨f, hff⟩ : ∃ f : Nat, l1.length + (bs.take k).flatten.length + c.length = f + 1 := ⟨l1.length + (bs.take k).flatten.length + c.length - 1, by omega⟩
          have hfe : f + 1 ≤ e := by
            have h := HJ.out
            rw [List.length_append, hfl, List.length_append, List.length_append] at h
            omega
          have HCT := hid (fun wy hk => HIH.out c hmem (l1 ++ (bs.take k).flatten) f wy (by
            have h : (code.take e).take (f + 1) = l1 ++ (bs.take k).flatten ++ c := by
              rw [HTK.out, hfl]
              have e2 : l1 ++ ((bs.take k).flatten ++ (c ++ (bs.drop (k + 1)).flatten)) = (l1 ++ (bs.take k).flatten ++ c) ++ (bs.drop (k + 1)).flatten := by simp [List.append_assoc]
              rw [e2, List.take_left' (by rw [List.length_append, List.length_append]; omega)]
            rw [List.take_take, Nat.min_eq_left hfe] at h
            exact h) (by have := HEC.out; omega) (HIP.out wy hk))
          have hio := owns_keep HOB.out (fun z hz => HKR.out.block z (HOB.out.lt z hz).2 id)
          have d0 : wr.cell? ⟨g, k, none⟩ = some (.int .i64 (f : Int)) := by
            rw [owns_cell hio hlt, List.getElem?_map, hea]
            show some (Value.int .i64 _) = _
            congr 2
            omega
          have hin2 : (0 : Int) ≤ (k : Int) ∧ (k : Int) < (bs.length : Int) := ⟨by omega, by omega⟩
          have hcs := HSS.out c hmem
          have HJN : Hid (joinB ((bs.take (k + 1)).map shB) 44 = if k = 0 then shB c else joinB ((bs.take k).map shB) 44 ++ ⟨#[44]⟩ ++ shB c) := hid (by
            rw [HTN.out, List.map_append]
            by_cases h0 : k = 0
            · rw [if_pos h0, h0, List.take_zero]
              exact joinX_one (shB c) 44
            · rw [if_neg h0]
              exact joinX_next (shB c) 44 (fun e1 => by
                have h := congrArg List.length e1
                rw [List.length_map, List.length_take, List.length_nil] at h
                omega))
          have HJ0 : Hid (k = 0 → joinB ((bs.take k).map shB) 44 = ⟨#[]⟩) := hid (fun h => by rw [h, List.take_zero]; rfl)
          clear hc hmem hpc hea hfl hff hfe hio
          generalize joinB ((bs.take k).map shB) 44 = JK at *
          obtain ⟨JN, hJN⟩ : ∃ J, joinB ((bs.take (k + 1)).map shB) 44 = J := ⟨_, rfl⟩
          have HJNE := hid hJN
          rw [hJN] at HJN
          clear hJN
          generalize shB c = SC at *
          by_cases h0 : k = 0
          · have g1 : decide ((0 : Int) < (k : Int)) = false := decide_eq_false (by omega)
            have g1n : decide (0 < k) = false := decide_eq_false (by omega)
            have HFIN : Hid (WX ++ ⟨#[40]⟩ ++ JK ++ SC = WX ++ ⟨#[40]⟩ ++ JN) := hid (by
              rw [HJN.out, if_pos h0, HJ0.out h0]
              congr 1
              apply baX_inj
              rw [ByteArray.data_append, Array.toList_append]
              simp)
            have y1 : ¬ (9223372036854775807 < WX.size + 1 + JK.size + SC.size) := by omega
            clear h0
            go_wp2_with fail
            refine (HCT.out wr HKW.out).mono ?_
            rintro r w5 ⟨rfl, hk5⟩
            have HK5 := hid (HKR.out.trans hk5)
            clear hk5 d0
            go_wp2
            go_roundw
            case rel => exact ⟨k + 1, by omega, by go_num, by rw [HFIN.out, ← HJNE.out], HK5.out⟩
            case measure => simp [intOf]; omega
          · have g1 : decide ((0 : Int) < (k : Int)) = true := decide_eq_true (by omega)
            have g1n : decide (0 < k) = true := decide_eq_true (by omega)
            have HFIN : Hid (WX ++ ⟨#[40]⟩ ++ JK ++ ⟨#[44]⟩ ++ SC = WX ++ ⟨#[40]⟩ ++ JN) := hid (by
              rw [HJN.out, if_neg h0]
              apply baX_inj
              simp only [ByteArray.data_append, Array.toList_append, List.append_assoc])
            have y1 : ¬ (9223372036854775807 < WX.size + 1 + JK.size + 1) := by omega
            have y2 : ¬ (9223372036854775807 < WX.size + 1 + JK.size + 1 + SC.size) := by omega
            clear h0
            go_wp2_with fail
            refine (HCT.out wr HKW.out).mono ?_
            rintro r w5 ⟨rfl, hk5⟩
            have HK5 := hid (HKR.out.trans hk5)
            clear hk5 d0
            go_wp2
            go_roundw
            case rel => exact ⟨k + 1, by omega, by go_num, by rw [HFIN.out, ← HJNE.out], HK5.out⟩
            case measure => simp [intOf]; omega
        · obtain rfl : k = bs.length := by omega
          have g0 : decide ((bs.length : Int) < (bs.length : Int)) = false := decide_eq_false (by omega)
          have y1 : ¬ (9223372036854775807 < WX.size + 1 + (joinB ((bs.take bs.length).map shB) 44).size + 1) := by omega
          rw [List.take_length] at y1 ⊢
          have G := hid HRI.out
          go_wp2
          go_ret
          exact ⟨by rw [G.out]; rfl, HKW.out⟩

set_option maxRecDepth 20000 in
set_option maxHeartbeats 4000000 in
theorem r_showX (code : List Ins) (p : Option Addr) (cap : Nat) (w : World) (hfit : ∀ x ∈ code, x.k.fit) (hf : IP w w.heap.size p code) :
    Calls Tryz.prog 45 #[.slice p code.length cap] w fun r w' => r = .returned (.string (showX code)) ∧ Keep (fun _ => False) w w' := by
  have HX := hid hfit
  have HF := hid (fun (wy : World) (hk : Keep (fun _ => False) w wy) => IP.mono (IP.low hf (Low.keep0 hk)) hk.size)
  clear hfit hf
  obtain ⟨R, hR⟩ : ∃ R, showX code = R := ⟨_, rfl⟩
  have HRE := hid hR.symm
  rw [hR]
  clear hR
  go_enter Tryz.func45, Tryz.ntmps45
  go_wp2_with fail
  refine (rf_check code p cap w HX.out (HF.out w (Keep.refl _ _))).mono ?_
  rintro r w2 ⟨rfl, hk⟩
  have HK2 := hid hk
  clear hk
  by_cases hz : exprC code = 0
  rotate_left
  · have HRC : Hid (R = ⟨#[]⟩) := hid (HRE.out.trans (if_neg hz))
    generalize exprC code = C at *
    have g1 : ((C : Int) != 0) = true := by rw [bne_iff_ne]; omega
    have g2 : (C != 0) = true := by rw [bne_iff_ne]; exact hz
    clear hz
    go_wp2
    go_ret
    exact ⟨by rw [HRC.out]; rfl, HK2.out⟩
  have HRC := hid (HRE.out.trans (showX_br hz))
  have HCL := hid (exprC_run hz).1
  have hpos := (br_code hz).pos
  obtain ⟨e, he⟩ : ∃ e, code.length = e + 1 := ⟨code.length - 1, by omega⟩
  have HTR := hid (fun wy hk => r_show code p cap HCL.out HX.out (br_code hz) [] e wy (by rw [← he, List.take_length]; rfl) (by omega) (HF.out wy hk))
  have heI : (code.length : Int) - 1 = (e : Int) := by omega
  have hl64 := HCL.out
  rw [hz]
  clear hz he hpos
  go_wp2_with fail
  refine (HTR.out w2 HK2.out).mono ?_
  rintro r w4 ⟨rfl, hk⟩
  have HK4 := hid (HK2.out.trans hk)
  clear hk heI hl64
  go_wp2
  go_ret
  exact ⟨by rw [HRC.out]; rfl, HK4.out⟩
end Go.Proofs.YtlhdofkgcbmnnaaGreatDoor

namespace Go.Proofs.YtlhdofkgcbmnnaaGreatDoor
open Go.RowKit Go.Proofs.Heap

theorem joinB_one (t : ByteArray) (s : UInt8) : joinB [t] s = t := by
  unfold joinB
  rw [List.map_cons, List.map_nil, Lib.join_one]
theorem joinTail_app (s : UInt8) (y : List UInt8) : ∀ r : List (List UInt8), Lib.joinTail [s] (r ++ [y]) = Lib.joinTail [s] r ++ (s :: y)
  | [] => by simp [Lib.joinTail]
  | x :: r => by
    have h1 : Lib.joinTail [s] ((x :: r) ++ [y]) = s :: (x ++ Lib.joinTail [s] (r ++ [y])) := rfl
    have h2 : Lib.joinTail [s] (x :: r) = s :: (x ++ Lib.joinTail [s] r) := rfl
    rw [h1, h2, joinTail_app s y r]
    simp [List.append_assoc]
theorem joinB_next {l : List ByteArray} (t : ByteArray) (s : UInt8) (h : l ≠ []) : joinB (l ++ [t]) s = joinB l s ++ ⟨#[s]⟩ ++ t := by
  cases l with
  | nil => exact absurd rfl h
  | cons x r =>
    apply ByteArray.ext
    apply Array.toList_inj.1
    rw [ByteArray.data_append, ByteArray.data_append, Array.toList_append, Array.toList_append]
    show Lib.join (((x :: r) ++ [t]).map (·.data.toList)) [s] = Lib.join ((x :: r).map (·.data.toList)) [s] ++ [s] ++ t.data.toList
    rw [List.map_append, List.map_cons, List.map_cons, List.map_nil, List.cons_append, Lib.join_cons, Lib.join_cons, joinTail_app]
    simp [List.append_assoc]
theorem joinB_size {l : List ByteArray} {s : UInt8} {M : Nat} (h : ∀ t ∈ l, t.size ≤ M) : (joinB l s).size ≤ l.length * (M + 1) := by
  show ((Lib.join _ [s]).toArray).size ≤ _
  rw [List.size_toArray]
  refine Nat.le_trans (join_le (M := M) ?_) ?_
  · intro x hx
    obtain ⟨y, hy, rfl⟩ := List.mem_map.1 hx
    rw [Array.length_toList]
    exact h y hy
  · rw [List.length_map]; exact Nat.le_refl _
end Go.Proofs.YtlhdofkgcbmnnaaGreatDoor

namespace Go.Proofs.YtlhdofkgcbmnnaaGreatDoor
open Go.RowKit Go.Proofs.Heap Go.Proofs.Sch Go.Proofs.Wide

theorem from_join (u t : ByteArray) : u ++ ⟨#[32, 102, 114, 111, 109, 32]⟩ ++ t = joinB [u, fromT, t] 32 := by
  have h1 : joinB [u, fromT, t] 32 = joinB [u, fromT] 32 ++ ⟨#[32]⟩ ++ t := joinB_next (l := [u, fromT]) t 32 (by simp)
  have h2 : joinB [u, fromT] 32 = joinB [u] 32 ++ ⟨#[32]⟩ ++ fromT := joinB_next (l := [u]) fromT 32 (by simp)
  rw [h1, h2, joinB_one]
  apply ByteArray.ext
  apply Array.toList_inj.1
  simp [ByteArray.data_append, fromT]

set_option maxRecDepth 20000 in
set_option maxHeartbeats 16000000 in
theorem r_line12 (r : Rul) (q : Option Addr) (qc : Nat) (w : World) (hn : 1 ≤ r.new ∧ r.new ≤ 24) (ho : 0 ≤ r.old ∧ r.old ≤ 24) (hl : r.exprs.length ≤ 8) (he : ∀ e ∈ r.exprs, encC e = 0) (hf : FitR r) (hq : EP w w.heap.size q r.exprs) :
    Calls Tryz.prog 22 #[RulV r q qc] w fun e w' => e = .returned (.string (ruLine r)) ∧ Keep (fun _ => False) w w' := by
  have HR : Hid (ruLine r = if r.old = 0 then freshT ++ itB r.new else joinB (itB r.new :: fromT :: itB r.old :: r.exprs.map showX) 32) := hid rfl
  generalize ruLine r = R at *
  obtain ⟨nw, od, es⟩ := r
  simp only at hn ho hl he hf hq HR
  have HIN := hid (fun w => rf_dig nw (by omega) (by omega) w)
  have HIO := hid (fun w => rf_dig od (by omega) (by omega) w)
  obtain ⟨w1, hw1, hb1, hs1, hk1⟩ := box1 w #[.int .i64 nw, .int .i64 od, .slice q es.length qc] 51
  have HK1 := hid hk1; have HB1 := hid hb1
  have HD : Hid (∀ wy, Keep (fun _ => False) w wy → EP wy wy.heap.size q es) := hid (fun wy hk => EP.mono (EP.low hq (Low.keep0 hk)) hk.size)
  have HF := hid hf; have HL := hid hl
  have HSI : Hid ((itB nw).size ≤ 21 ∧ (itB od).size ≤ 21) := hid ⟨(it_little nw (by omega) (by omega) w).1, (it_little od (by omega) (by omega) w).1⟩
  have HSH : Hid (∀ x ∈ es, (showX x).size ≤ 4000) := hid (fun x hx => showX_size (he x hx) (hf x hx))
  have HNX := hid (fun k x (h : es[k]? = some x) => shows_next h (itB nw) fromT (itB od))
  clear hb1 hs1 hk1 hn ho hl he hf hq
  go_enter Tryz.func22, Tryz.ntmps22
  go_upto_region 1 with fail
  rw [← hw1]
  clear hw1
  obtain ⟨sb, hsb⟩ : ∃ sb, w.heap.size = sb := ⟨_, rfl⟩
  rw [hsb] at HB1 ⊢
  clear hsb
  have HC : Hid (∀ wy, Keep (fun _ => False) w1 wy → wy.cell? ⟨sb, 0, none⟩ = some (.int .i64 nw) ∧ wy.cell? ⟨sb, 1, none⟩ = some (.int .i64 od) ∧ wy.cell? ⟨sb, 2, none⟩ = some (.slice q es.length qc)) := hid (fun wy hk => ⟨cell_of (hk.get HB1.out (fun e => e)) (by rfl), cell_of (hk.get HB1.out (fun e => e)) (by rfl), cell_of (hk.get HB1.out (fun e => e)) (by rfl)⟩)
  obtain ⟨c0, c1, c2⟩ := HC.out w1 (Keep.refl _ _)
  by_cases h0 : od = 0
  · have g1 : (od == 0) = true := beq_iff_eq.2 h0
    have G : Hid (R = freshT ++ itB nw) := hid (HR.out.trans (if_pos h0))
    have HSN := hid HSI.out.1
    have HIA := hid (HIN.out w1)
    obtain ⟨ti, hti⟩ : ∃ ti, itB nw = ti := ⟨_, rfl⟩
    clear h0 HR HNX
    rw [hti] at G HSN HIA
    go_wp2_with fail
    refine HIA.out.mono ?_
    rintro r w2 ⟨rfl, hk⟩
    have HK2 := hid (HK1.out.trans hk)
    have hsz : ¬ (9223372036854775807 < 6 + ti.size) := by have := HSN.out; omega
    clear hk c0 c1 c2 hti
    go_wp2
    go_ret
    exact ⟨by rw [G.out]; rfl, HK2.out⟩
  have g1 : (od == 0) = false := beq_eq_false_iff_ne.2 h0
  have G : Hid (R = joinB (itB nw :: fromT :: itB od :: es.map showX) 32) := hid (HR.out.trans (if_neg h0))
  have HIN2 := hid HIN.out; have HIO2 := hid HIO.out
  obtain ⟨tn, htn⟩ : ∃ tn, itB nw = tn := ⟨_, rfl⟩
  obtain ⟨tf, htf⟩ : ∃ tf, itB od = tf := ⟨_, rfl⟩
  clear h0 HR HIN HIO
  rw [htn] at HSI HNX G HIN2; rw [htf] at HSI HNX G HIO2
  clear htn htf
  go_upto_region 3 with fail
  clear c0 c1 c2 g1
  have HK1d := hid (Keep.refl (fun _ => False) w1).drew
  refine Plan.wp_region_pl [(false, 0, []), (false, 1, []), (false, 4, []), (false, 5, []), (true, 2, [5, 4]), (false, 3, []), (true, 6, [3]), (false, 7, []), (false, 8, [])] (by as_aux_lemma => kernel_rfl) (by as_aux_lemma => kernel_rfl) ?_
  generalize w1.drew = wd at *
  obtain ⟨c0, c1, c2⟩ := HC.out wd HK1d.out
  iterate 4 (refine Plan.pl_st rfl ?_; go_big_quiet_step (fail); refine wpQuiet_nil ?_)
  refine Plan.pl_ac rfl ?_
  go_wp2_with fail
  refine (HIN2.out wd).mono ?_
  rintro r w2 ⟨rfl, hk⟩
  have HK2 := hid (HK1d.out.trans hk)
  clear hk c0 c1 c2
  obtain ⟨c0, c1, c2⟩ := HC.out w2 HK2.out
  have hs1 : ¬ (9223372036854775807 < tn.size + 6) := by have := HSI.out.1; omega
  go_wp2
  refine Plan.plQ_mk ?_ ?_
  · iterate 2 (refine Plan.chk_st rfl ?_ ?_; focus (go_big_quiet_step (fail); exact wpQuiet_nil rfl))
    exact Plan.chk_end
  iterate 1 (refine Plan.pl_st rfl ?_; go_big_quiet_step (fail); refine wpQuiet_nil ?_)
  refine Plan.pl_ac rfl ?_
  go_wp2_with fail
  refine (HIO2.out w2).mono ?_
  rintro r w3 ⟨rfl, hk⟩
  have HK3 := hid (HK2.out.trans hk)
  clear hk c0 c1 c2
  go_wp2
  refine Plan.plQ_mk ?_ ?_
  · iterate 1 (refine Plan.chk_st rfl ?_ ?_; focus (go_big_quiet_step (fail); exact wpQuiet_nil rfl))
    exact Plan.chk_end
  clear hs1
  have HFJ := hid (from_join tn tf)
  have hs2 : ¬ (9223372036854775807 < (tn ++ ⟨#[32, 102, 114, 111, 109, 32]⟩).size + tf.size) := by
    rw [ByteArray.size_append]
    have h : (⟨#[32, 102, 114, 111, 109, 32]⟩ : ByteArray).size = 6 := rfl
    have := HSI.out.1; have := HSI.out.2; omega
  generalize tn ++ ⟨#[32, 102, 114, 111, 109, 32]⟩ = tz at *
  iterate 2 (refine Plan.pl_st rfl ?_; go_big_quiet_step (fail); refine wpQuiet_nil ?_)
  refine Plan.pl_end ?_
  rw [HFJ.out]
  clear hs2 HFJ
  have hl8 := HL.out
  go_wp2_with fail
  go_loopw [3, 4] (fun v i wr => ∃ k : Nat, k ≤ es.length ∧ i = iV k ∧ v = .string (joinB (tn :: fromT :: tf :: (es.take k).map showX) 32) ∧ Keep (fun _ => False) w1 wr) (fun _ i _ => es.length + 1 - (intOf i).toNat)
  case atStart => exact ⟨0, Nat.zero_le _, rfl, rfl, HK3.out⟩
  case round =>
    obtain ⟨k, hk, rfl, rfl, hkr⟩ := hrel
    have HKR := hid hkr
    clear hkr
    obtain ⟨c0, c1, c2⟩ := HC.out wr HKR.out
    by_cases hlt : k < es.length
    · obtain ⟨x, hxk⟩ : ∃ x, es[k]? = some x := ⟨es[k], by simp [hlt]⟩
      have HNK : Hid (joinB (tn :: fromT :: tf :: (es.take (k + 1)).map showX) 32 = joinB (tn :: fromT :: tf :: (es.take k).map showX) 32 ++ ⟨#[32]⟩ ++ showX x) := hid (by rw [HNX.out k x hxk, joinB_next _ _ (by simp)])
      have HXE := hid (HF.out x (List.mem_of_getElem? hxk))
      have HXS := hid (HSH.out x (List.mem_of_getElem? hxk))
      have HJS : Hid ((joinB (tn :: fromT :: tf :: (es.take k).map showX) 32).size ≤ 100000) := hid (by
        refine Nat.le_trans (joinB_size (M := 4000) fun t ht => ?_) ?_
        · rcases List.mem_cons.1 ht with rfl | ht
          · have := HSI.out.1; omega
          · rcases List.mem_cons.1 ht with rfl | ht
            · decide
            · rcases List.mem_cons.1 ht with rfl | ht
              · have := HSI.out.2; omega
              · obtain ⟨x, hx, rfl⟩ := List.mem_map.1 ht
                exact HSH.out x (List.mem_of_mem_take hx)
        · have h8 := HL.out
          simp only [List.length_cons, List.length_map, List.length_take]
          have : min k es.length + 1 + 1 + 1 ≤ 11 := by omega
          exact Nat.le_trans (Nat.mul_le_mul_right _ this) (by decide))
      obtain ⟨b2, o2, xp, xc, rfl, hb2, d0, hec, hip⟩ := EP.at (HD.out wr (HK1.out.trans HKR.out)) hxk
      have HIP := hid hip
      have hin : (0 : Int) ≤ (k : Int) ∧ (k : Int) < (es.length : Int) := ⟨by omega, by omega⟩
      clear hxk hb2 hec hip
      obtain ⟨js, hjs⟩ : ∃ js, joinB (tn :: fromT :: tf :: (es.take k).map showX) 32 = js := ⟨_, rfl⟩
      rw [hjs] at HNK HJS ⊢
      have HSX := hid (r_showX x xp xc wr HXE.out HIP.out)
      obtain ⟨tx, htx⟩ : ∃ tx, showX x = tx := ⟨_, rfl⟩
      rw [htx] at HNK HXS HSX
      have hs1 : ¬ (9223372036854775807 < js.size + 1) := by have := HJS.out; omega
      have HS2 : Hid (¬ (9223372036854775807 < (js ++ ⟨#[32]⟩).size + tx.size)) := hid (by
        rw [ByteArray.size_append]
        have h : (⟨#[32]⟩ : ByteArray).size = 1 := rfl
        have := HJS.out; have := HXS.out; omega)
      obtain ⟨jt, hjt⟩ : ∃ jt, js ++ ⟨#[32]⟩ = jt := ⟨_, rfl⟩
      rw [hjt] at HNK HS2
      clear hjs htx
      go_wp2_with (rw [hjt])
      refine HSX.out.mono ?_
      rintro r w6 ⟨rfl, hk6⟩
      have HK6 := hid (HKR.out.trans hk6)
      have hs2 := HS2.out
      clear hk6 c0 c1 c2 d0 hs1 hjt
      go_wp2
      go_roundw
      case rel => exact ⟨k + 1, by omega, by go_num, by rw [HNK.out], HK6.out⟩
      case measure => simp [intOf]; omega
    · obtain rfl : k = es.length := by omega
      have g0 : decide ((es.length : Int) < (es.length : Int)) = false := decide_eq_false (by omega)
      have G2 : Hid (R = joinB (tn :: fromT :: tf :: (es.take es.length).map showX) 32) := hid (by rw [List.take_length]; exact G.out)
      go_wp2
      go_ret
      exact ⟨by rw [G2.out]; rfl, HK1.out.trans HKR.out⟩
end Go.Proofs.YtlhdofkgcbmnnaaGreatDoor
