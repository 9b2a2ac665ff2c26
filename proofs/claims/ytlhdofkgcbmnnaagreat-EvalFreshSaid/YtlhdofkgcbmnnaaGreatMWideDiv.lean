/- What is proved: what divide of the great numbers answers; Quo and Rem, whatever they are handed. -/
import Derived.Test.YtlhdofkgcbmnnaaGreatMWideU
import Derived.Test.YtlhdofkgcbmnnaaGreatMLay
import Derived.Shelf.Bits.Mul64
namespace Go.Proofs.Wide
/-- A size as a number. -/
abbrev dW (m : Nat) : WI := ⟨false, m / 18446744073709551616, m % 18446744073709551616⟩
theorem div_bit (m j : Nat) : m / 2 ^ j = 2 * (m / 2 ^ (j + 1)) + m / 2 ^ j % 2 := by
  rw [Nat.pow_succ, ← Nat.div_div_eq_div_mul]
  omega
theorem word_lo {x : WI} {j : Nat} (h : j < 64) : x.lo / 2 ^ j % 2 = x.mag / 2 ^ j % 2 := by
  have e : x.mag = 2 ^ j * (x.hi * 2 ^ (63 - j) * 2) + x.lo := by
    unfold WI.mag
    have : (18446744073709551616 : Nat) = 2 ^ j * (2 ^ (63 - j) * 2) := by
      rw [← Nat.pow_succ, ← Nat.pow_add, show j + (63 - j + 1) = 64 by omega]
    rw [this]
    ac_rfl
  rw [e, Nat.mul_add_div (Nat.two_pow_pos j)]
  omega
theorem word_hi {x : WI} {j : Nat} (hl : x.lo < 18446744073709551616) (h : 64 ≤ j) : x.hi / 2 ^ (j - 64) % 2 = x.mag / 2 ^ j % 2 := by
  have e : x.mag / 2 ^ j = x.hi / 2 ^ (j - 64) := by
    rw [show (2 : Nat) ^ j = 18446744073709551616 * 2 ^ (j - 64) by rw [show (18446744073709551616 : Nat) = 2 ^ 64 from rfl, ← Nat.pow_add, show 64 + (j - 64) = j by omega], ← Nat.div_div_eq_div_mul]
    congr 1
    unfold WI.mag; omega
  rw [e]
theorem cmp_ge (a b : Nat) : decide ((0 : Int) ≤ cmpN a b) = decide (b ≤ a) := by
  unfold cmpN
  by_cases h : b < a
  · rw [if_pos h, decide_eq_true (by omega), decide_eq_true (by omega)]
  · rw [if_neg h]
    by_cases h2 : a = b
    · rw [if_pos h2, decide_eq_true (by omega), decide_eq_true (by omega)]
    · rw [if_neg h2, decide_eq_false (by omega), decide_eq_false (by omega)]
theorem dW_mag (m : Nat) : (dW m).mag = m := by unfold WI.mag; simp only; omega
theorem dW_fit {m : Nat} (h : m < 340282366920938463463374607431768211456) : (dW m).fit := by unfold WI.fit; simp only; omega
theorem div_of {n q r y : Nat} (h : n = q * y + r) (hr : r < y) : n / y = q ∧ n % y = r := by
  rw [h, Nat.mul_comm, Nat.mul_add_div (by omega), Nat.div_eq_of_lt hr, Nat.mul_add_mod, Nat.mod_eq_of_lt hr]
  exact ⟨rfl, rfl⟩
end Go.Proofs.Wide
namespace Go.Proofs.YtlhdofkgcbmnnaaGreat
open Go.RowKit Go.Proofs.Heap Go.Proofs.Wide
theorem shl_or (a c : Nat) (hc : c < 2) : bits .or .u64 (IntKind.u64.wrap ((a : Int) * 2)) (c : Int) = ((2 * a % 18446744073709551616 + c : Nat) : Int) := by
  have h1 : IntKind.u64.wrap ((a : Int) * 2) = ((2 ^ 1 * (a % 9223372036854775808) : Nat) : Int) := by
    have := IntKind.wrap_u64 ((a : Int) * 2); omega
  rw [h1, (bits_nat .u64 64 (by decide) wraps64 (2 ^ 1 * (a % 9223372036854775808)) c (by omega) (by omega)).2, ← Nat.two_pow_add_eq_or_of_lt (by omega)]
  omega
theorem and_1 (a : Nat) (s : Nat) (ha : a < 18446744073709551616) : bits .and .u64 ((a : Int) / 2 ^ s) 1 = ((a / 2 ^ s % 2 : Nat) : Int) := by
  have h1 : (a : Int) / 2 ^ s = ((a / 2 ^ s : Nat) : Int) := by simp
  have h2 := (bits_nat .u64 64 (by decide) wraps64 (a / 2 ^ s) 1 (Nat.lt_of_le_of_lt (Nat.div_le_self _ _) ha) (by omega)).1
  rw [h1]
  refine (by simpa using h2 : bits .and .u64 ((a / 2 ^ s : Nat) : Int) 1 = ((a / 2 ^ s &&& 1 : Nat) : Int)).trans ?_
  rw [Nat.and_one_is_mod]
theorem or_1 (a : Nat) (ha : a < 9223372036854775808) : bits .or .u64 ((2 * a : Nat) : Int) 1 = ((2 * a + 1 : Nat) : Int) := by
  have h2 := (bits_nat .u64 64 (by decide) wraps64 (2 ^ 1 * a) 1 (by omega) (by omega)).2
  rw [← Nat.two_pow_add_eq_or_of_lt (by omega)] at h2
  simpa using h2

theorem size_m {m h l : Nat} {y : WI} (hh : m / 18446744073709551616 = h) (hl : m % 18446744073709551616 = l) (hm : m < 340282366920938463463374607431768211456) (hy : y.fit) (w : World) :
    Calls Tryz.prog 165 #[.agg #[.bool false, .int .u64 (h : Int), .int .u64 (l : Int)], WV y] w fun r w' => r = .returned (.int .i64 (cmpN m y.mag)) ∧ Keep (fun _ => False) w w' := by
  have := w_size (dW m) y (dW_fit hm) hy w
  rw [dW_mag] at this
  subst hh hl
  exact this
theorem dW_cells {m h l : Nat} (hh : m / 18446744073709551616 = h) (hl : m % 18446744073709551616 = l) : WC (dW m) = #[.bool false, .int .u64 (h : Int), .int .u64 (l : Int)] := by
  subst hh hl
  rfl
theorem results_ccD {fn : Func} {p u : Tmp} {ty tz : TypeId} (h : fn.results = #[.cell p ty, .cell u tz]) (tmps : Array Value) {P : Program} {w : World} {ad ae : Addr} {v x : Value}
    (hp : tmps.getD p undef = .pointer (some ad)) (hl : (loadVar ty ad).run P w = .ok v w) (hq : tmps.getD u undef = .pointer (some ae)) (hm : (loadVar tz ae).run P w = .ok x w) : (results fn tmps).run P w = .ok (.tuple #[v, x]) w := by
  have hp' : tmps[p]?.getD undef = .pointer (some ad) := by simpa using hp
  have hq' : tmps[u]?.getD undef = .pointer (some ae) := by simpa using hq
  simp [results, h, hp', hq', asAddr, hl, hm]
theorem load_intD {w : World} {b : Nat} {x0 x1 x2 : Value} (h : w.heap[b]? = some (.cells #[x0, x1, x2] 86 (0, 0))) : (loadVar 86 ⟨b, 0, none⟩).run Tryz.prog w = .ok (.agg #[x0, x1, x2]) w :=
  run_loadVar_row w b _ 86 _ _ _ h Tryz.underlying86 rfl (by kernel_rfl)
theorem cells3' {w : World} {b : Nat} {t : TypeId} {v0 v1 v2 : Value} (x1 x2 : Value) (h : w.heap[b]? = some (.cells #[v0, v1, v2] t (0, 0))) :
    ((w.setCell ⟨b, 1, none⟩ x1).setCell ⟨b, 2, none⟩ x2).heap[b]? = some (.cells #[v0, x1, x2] t (0, 0)) := by
  rw [hsc_same (hsc_same h 1 x1) 2 x2]
  rfl
set_option maxRecDepth 20000 in
set_option maxHeartbeats 16000000 in
theorem w_divide (x y : WI) (hx : x.fit) (hy : y.fit) (h0 : 0 < y.mag) (h7 : y.mag < 170141183460469231731687303715884105728) (w : World) :
    Calls Tryz.prog 186 #[WV x, WV y] w fun r w' => r = .returned (.tuple #[WV (dW (x.mag / y.mag)), WV (dW (x.mag % y.mag))]) ∧ Keep (fun _ => False) w w' := by
  obtain ⟨w1, hw1, hb1, hb2, hb3, hb4, hs1, hk1⟩ := box4 w (WC x) (WC y) Z3 Z3 86 86 86 86
  obtain ⟨w2, hw2, hb5, hb6, hs2, hk2⟩ := box2 w1 Z3 Z3 86 86
  have HK2 := hid (hk1.trans hk2)
  have HA2 := hid (hk2.get hb1 id); have HB2 := hid (hk2.get hb2 id); have HR2 := hid (hk2.get hb3 id); have HT2 := hid (hk2.get hb4 id); have HQ2 := hid hb5; have HE2 := hid hb6
  have HS1 := hid hs1
  have HFX := hid hx; have HFY := hid hy; have HY0 := hid h0; have HY7 := hid h7
  subst hw1
  clear hb1 hb2 hb3 hb4 hb5 hb6 hs1 hs2 hk1 hk2 hx hy h0 h7
  go_enter Tryz.func186, Tryz.ntmps186
  go_upto_region 2 with fail
  rw [← hw2]
  clear hw2
  obtain ⟨sx, hsx⟩ : ∃ sx, w.heap.size = sx := ⟨_, rfl⟩
  obtain ⟨sy, hsy⟩ : ∃ sy, w.heap.size + 1 = sy := ⟨_, rfl⟩
  obtain ⟨sr, hsr⟩ : ∃ sr, w.heap.size + 1 + 1 = sr := ⟨_, rfl⟩
  obtain ⟨st, hst⟩ : ∃ st, w.heap.size + 1 + 1 + 1 = st := ⟨_, rfl⟩
  obtain ⟨sq, hsq⟩ : ∃ sq, w.heap.size + 1 + 1 + 1 + 1 = sq := ⟨_, rfl⟩
  obtain ⟨se, hse⟩ : ∃ se, w.heap.size + 1 + 1 + 1 + 1 + 1 = se := ⟨_, rfl⟩
  have HS := HS1.out
  have HN : Hid (sx = w.heap.size ∧ sy = w.heap.size + 1 ∧ sr = w.heap.size + 2 ∧ st = w.heap.size + 3 ∧ sq = w.heap.size + 4 ∧ se = w.heap.size + 5) := hid (by omega)
  rw [show ((((w.alloc (.cells (WC x) 86)).alloc (.cells (WC y) 86)).alloc (.cells Z3 86)).alloc (.cells Z3 86)).heap.size = w.heap.size + 1 + 1 + 1 + 1 by omega] at HQ2 HE2
  clear HS HS1
  rw [hse] at HE2 ⊢
  rw [hsq] at HQ2 ⊢
  rw [hst] at HT2 ⊢
  rw [hsr] at HR2 ⊢
  rw [hsy] at HB2 ⊢
  rw [hsx] at HA2 ⊢
  clear hsx hsy hsr hst hsq hse
  go_wp2_with fail
  go_loopw [8, 9, 10, 11, 12, 13, 14] (fun i _ _ _ _ _ _ wr => ∃ k : Nat, k ≤ 128 ∧ i = .int .i64 ((k : Int) - 1) ∧ wr.heap[sq]? = some (.cells (WC (dW (x.mag / 2 ^ k / y.mag))) 86 (0, 0)) ∧ wr.heap[se]? = some (.cells (WC (dW (x.mag / 2 ^ k % y.mag))) 86 (0, 0)) ∧ Keep (fun b => b = sq ∨ b = se) w2 wr) (fun i _ _ _ _ _ _ _ => (intOf i + 1).toNat)
  case atStart =>
    have e0 : x.mag / 2 ^ 128 = 0 := Nat.div_eq_of_lt (mag_lt HFX.out)
    refine ⟨128, Nat.le_refl _, rfl, ?_, ?_, Keep.refl _ _⟩
    · rw [e0, Nat.zero_div]; exact HQ2.out
    · rw [e0, Nat.zero_mod]; exact HE2.out
  case round =>
    obtain ⟨k, hk, rfl, hq, he, hkr⟩ := hrel
    have HQ := hid hq; have HE := hid he; have HKR := hid hkr
    clear hq he hkr
    cases k with
    | zero =>
      rw [Nat.pow_zero, Nat.div_one] at HQ HE
      have HRR := hid (HKR.out.get HR2.out (by have := HN.out; omega)); have HTR := hid (HKR.out.get HT2.out (by have := HN.out; omega))
      have HKQ := hid (keep_new HK2.out HKR.out (fun g e => by have := HN.out; omega))
      obtain ⟨u, hu⟩ : ∃ u, dW (x.mag / y.mag) = u := ⟨_, rfl⟩
      obtain ⟨v, hv⟩ : ∃ v, dW (x.mag % y.mag) = v := ⟨_, rfl⟩
      rw [hu] at HQ
      rw [hv] at HE
      have HUV := hid (And.intro hu hv)
      clear hu hv
      have q0 : wr.cell? ⟨sq, 0, none⟩ = some (.bool u.neg) := cell_of HQ.out (by rfl)
      have q1 : wr.cell? ⟨sq, 1, none⟩ = some (.int .u64 (u.hi : Int)) := cell_of HQ.out (by rfl)
      have q2 : wr.cell? ⟨sq, 2, none⟩ = some (.int .u64 (u.lo : Int)) := cell_of HQ.out (by rfl)
      have e0 : wr.cell? ⟨se, 0, none⟩ = some (.bool v.neg) := cell_of HE.out (by rfl)
      have e1 : wr.cell? ⟨se, 1, none⟩ = some (.int .u64 (v.hi : Int)) := cell_of HE.out (by rfl)
      have e2 : wr.cell? ⟨se, 2, none⟩ = some (.int .u64 (v.lo : Int)) := cell_of HE.out (by rfl)
      go_upto_region 15 with fail
      refine Plan.wp_region_pl [(false, 0, []), (false, 1, []), (true, 2, [1]), (true, 3, [])] (by as_aux_lemma => kernel_rfl) (by as_aux_lemma => kernel_rfl) ?_
      have HRD : Hid (wr.drew.heap[sr]? = some (.cells Z3 86 (0, 0))) := HRR
      have HTD : Hid (wr.drew.heap[st]? = some (.cells Z3 86 (0, 0))) := HTR
      have q0 : wr.drew.cell? ⟨sq, 0, none⟩ = some (.bool u.neg) := q0
      have q1 : wr.drew.cell? ⟨sq, 1, none⟩ = some (.int .u64 (u.hi : Int)) := q1
      have q2 : wr.drew.cell? ⟨sq, 2, none⟩ = some (.int .u64 (u.lo : Int)) := q2
      have e0 : wr.drew.cell? ⟨se, 0, none⟩ = some (.bool v.neg) := e0
      have e1 : wr.drew.cell? ⟨se, 1, none⟩ = some (.int .u64 (v.hi : Int)) := e1
      have e2 : wr.drew.cell? ⟨se, 2, none⟩ = some (.int .u64 (v.lo : Int)) := e2
      have HKD := hid HKQ.out.drew
      clear HRR HTR HKQ HQ HE
      generalize wr.drew = wd at *
      have f0 := free_of HRD.out 0; have f1 := free_of HRD.out 1; have f2 := free_of HRD.out 2
      have h0 := free_of HTD.out 0; have h1 := free_of HTD.out 1; have h2 := free_of HTD.out 2
      have c0 := cell_of HRD.out (i := 0) (by rfl); have c1 := cell_of HRD.out (i := 1) (by rfl); have c2 := cell_of HRD.out (i := 2) (by rfl)
      have d0 := cell_of HTD.out (i := 0) (by rfl); have d1 := cell_of HTD.out (i := 1) (by rfl); have d2 := cell_of HTD.out (i := 2) (by rfl)
      have hne : sr ≠ st := by have := HN.out; omega
      have hne2 : st ≠ sr := by have := HN.out; omega
      have hn3 : se ≠ sr := by have := HN.out; omega
      iterate 2 (refine Plan.pl_st rfl ?_; go_big_quiet_step (fail); refine wpQuiet_nil ?_)
      refine Plan.pl_ac rfl ?_
      go_wp2
      refine Plan.plQ_mk ?_ ?_
      · iterate 1 (refine Plan.chk_st rfl ?_ ?_; focus (go_big_quiet_step (fail); exact wpQuiet_nil rfl))
        exact Plan.chk_end
      refine Plan.pl_ac rfl ?_
      have HRE := hid (cells3 (.bool u.neg) (.int .u64 (u.hi : Int)) (.int .u64 (u.lo : Int)) HRD.out)
      have hkr := ((Keep.refl (fun g => g = sr) wd).setCell (p := ⟨sr, 0, none⟩) rfl (.bool u.neg)).setCell (p := ⟨sr, 1, none⟩) rfl (.int .u64 (u.hi : Int)) |>.setCell (p := ⟨sr, 2, none⟩) rfl (.int .u64 (u.lo : Int))
      have HTE := hid (hkr.get HTD.out (fun e => hne2 e))
      have HKE := hid (keep_new HKD.out hkr (fun g e => by have := HN.out; omega))
      clear hkr HRD HTD HKD
      generalize (((wd.setCell ⟨sr, 0, none⟩ (.bool u.neg)).setCell ⟨sr, 1, none⟩ (.int .u64 (u.hi : Int))).setCell ⟨sr, 2, none⟩ (.int .u64 (u.lo : Int))) = wf at *
      clear c0 c1 c2 d0 d1 d2 f0 f1 f2 h0 h1 h2 q0 q1 q2 e0 e1 e2
      have h0 := free_of HTE.out 0; have h1 := free_of HTE.out 1; have h2 := free_of HTE.out 2
      have d0 := cell_of HTE.out (i := 0) (by rfl); have d1 := cell_of HTE.out (i := 1) (by rfl); have d2 := cell_of HTE.out (i := 2) (by rfl)
      go_wp2
      refine Plan.plQ_mk Plan.chk_end ?_
      refine Plan.pl_end ?_
      go_wp2
      (try simp only [Exit.inBlock, Exit.then])
      refine bodyPost_ret (results_ccD rfl _ rfl (load_intD ((show (((wf.setCell ⟨st, 0, none⟩ (.bool v.neg)).setCell ⟨st, 1, none⟩ (.int .u64 (v.hi : Int))).setCell ⟨st, 2, none⟩ (.int .u64 (v.lo : Int))).heap[sr]? = _ by rw [hsc_ne _ hne, hsc_ne _ hne, hsc_ne _ hne]; exact HRE.out))) rfl (load_intD (cells3 (.bool v.neg) (.int .u64 (v.hi : Int)) (.int .u64 (v.lo : Int)) HTE.out))) rfl ?_
      refine ⟨by rw [HUV.out.1, HUV.out.2], ((HKE.out.setCell_new (p := ⟨st, 0, none⟩) (by show _ ≤ st; have := HN.out; omega) _).setCell_new (p := ⟨st, 1, none⟩) (by show _ ≤ st; have := HN.out; omega) _).setCell_new (p := ⟨st, 2, none⟩) (by show _ ≤ st; have := HN.out; omega) _⟩
    | succ j =>
      rw [show ((j + 1 : Nat) : Int) - 1 = (j : Int) by omega]
      have hj : j < 128 := by omega
      have HAR := hid (HKR.out.get HA2.out (by have := HN.out; omega)); have HBR := hid (HKR.out.get HB2.out (by have := HN.out; omega)); have HRR := hid (HKR.out.get HR2.out (by have := HN.out; omega)); have HTR := hid (HKR.out.get HT2.out (by have := HN.out; omega))
      have hgx : (0 : Int) ≤ (j : Int) := by omega
      have a1 : wr.cell? ⟨sx, 1, none⟩ = some (.int .u64 (x.hi : Int)) := cell_of HAR.out (by rfl)
      have a2 : wr.cell? ⟨sx, 2, none⟩ = some (.int .u64 (x.lo : Int)) := cell_of HAR.out (by rfl)
      go_upto_if 23 with fail
      go_cut [9, 10] from 15 to 86 (fun a b wx => wx = wr ∧ ∃ wd sh : Nat, a = .int .u64 (wd : Int) ∧ b = .int .i64 (sh : Int) ∧ wd < 18446744073709551616 ∧ sh < 64 ∧ wd / 2 ^ sh % 2 = x.mag / 2 ^ j % 2)
      case first =>
        by_cases h64 : j < 64
        · have g : ¬ ((64 : Int) ≤ (j : Int)) := by omega
          go_wp2
          go_meet
          case rel => exact ⟨rfl, x.lo, j, rfl, rfl, HFX.out.2, h64, word_lo h64⟩
        · have g : ((64 : Int) ≤ (j : Int)) := by omega
          go_wp2
          go_meet
          case rel => exact ⟨rfl, x.hi, j - 64, rfl, by rw [show ((j - 64 : Nat) : Int) = (j : Int) - 64 by omega], HFX.out.1, by omega, word_hi HFX.out.2 (by omega)⟩
      case rest =>
        obtain ⟨rfl, wd, sh, rfl, rfl, hwd, hsh, hbit⟩ := hcut
        obtain ⟨q, hqd⟩ : ∃ q, x.mag / 2 ^ (j + 1) / y.mag = q := ⟨_, rfl⟩
        obtain ⟨r, hrd⟩ : ∃ r, x.mag / 2 ^ (j + 1) % y.mag = r := ⟨_, rfl⟩
        obtain ⟨b, hbd⟩ : ∃ b, x.mag / 2 ^ j % 2 = b := ⟨_, rfl⟩
        have HT : Hid (x.mag / 2 ^ j = 2 * (q * y.mag + r) + b ∧ r < y.mag ∧ b < 2 ∧ x.mag / 2 ^ j < 340282366920938463463374607431768211456) := hid (by
          refine ⟨?_, ?_, by omega, ?_⟩
          · rw [div_bit x.mag j, hbd, ← hqd, ← hrd, Nat.mul_comm, Nat.div_add_mod' , Nat.mul_comm]
          · rw [← hrd]; exact Nat.mod_lt _ HY0.out
          · exact Nat.lt_of_le_of_lt (Nat.div_le_self _ _) (mag_lt HFX.out))
        have HTQ : Hid (2 * q < 340282366920938463463374607431768211456) := hid (by
          have h1 := HT.out; have h2 := HY0.out
          have : q * 1 ≤ q * y.mag := Nat.mul_le_mul_left q h2
          omega)
        rw [hqd] at HQ
        rw [hrd] at HE
        rw [hbd] at hbit
        have HBIT := hid hbit
        clear hqd hrd hbd hbit a1 a2
        obtain ⟨qh, hqh⟩ : ∃ n, q / 18446744073709551616 = n := ⟨_, rfl⟩
        obtain ⟨ql, hql⟩ : ∃ n, q % 18446744073709551616 = n := ⟨_, rfl⟩
        obtain ⟨rh, hrh⟩ : ∃ n, r / 18446744073709551616 = n := ⟨_, rfl⟩
        obtain ⟨rl, hrl⟩ : ∃ n, r % 18446744073709551616 = n := ⟨_, rfl⟩
        have HQ' : Hid (wc.heap[sq]? = some (.cells #[.bool false, .int .u64 (qh : Int), .int .u64 (ql : Int)] 86 (0, 0))) := hid (by rw [← hqh, ← hql]; exact HQ.out)
        have HE' : Hid (wc.heap[se]? = some (.cells #[.bool false, .int .u64 (rh : Int), .int .u64 (rl : Int)] 86 (0, 0))) := hid (by rw [← hrh, ← hrl]; exact HE.out)
        clear HQ HE
        have HQR := hid (And.intro hqh (And.intro hql (And.intro hrh hrl)))
        clear hqh hql hrh hrl
        have e1 : wc.cell? ⟨se, 1, none⟩ = some (.int .u64 (rh : Int)) := cell_of HE'.out (by rfl)
        have e2 : wc.cell? ⟨se, 2, none⟩ = some (.int .u64 (rl : Int)) := cell_of HE'.out (by rfl)
        have q1 : wc.cell? ⟨sq, 1, none⟩ = some (.int .u64 (qh : Int)) := cell_of HQ'.out (by rfl)
        have q2 : wc.cell? ⟨sq, 2, none⟩ = some (.int .u64 (ql : Int)) := cell_of HQ'.out (by rfl)
        have fe1 := free_of HE'.out 1; have fe2 := free_of HE'.out 2; have fq1 := free_of HQ'.out 1; have fq2 := free_of HQ'.out 2
        have hne : sq ≠ se := by have := HN.out; omega
        have hne2 : se ≠ sq := by have := HN.out; omega
        have hsh2 : (sh : Int) < 64 := by omega
        obtain ⟨mh, hmh⟩ : ∃ n, (2 * r + b) / 18446744073709551616 = n := ⟨_, rfl⟩
        obtain ⟨ml, hml⟩ : ∃ n, (2 * r + b) % 18446744073709551616 = n := ⟨_, rfl⟩
        obtain ⟨ph, hph⟩ : ∃ n, 2 * q / 18446744073709551616 = n := ⟨_, rfl⟩
        obtain ⟨pl, hpl⟩ : ∃ n, 2 * q % 18446744073709551616 = n := ⟨_, rfl⟩
        have HMP := hid (And.intro hmh (And.intro hml (And.intro hph hpl)))
        clear hmh hml hph hpl
        go_upto_region 9 with fail
        have E1 : bits BinOp.or IntKind.u64 (IntKind.u64.wrap ((rh : Int) * 2)) ((rl : Int) / 9223372036854775808) = (mh : Int) := by
          have h0 := HMP.out; have h1 := HQR.out; have h2 := HT.out; have h3 := HY7.out
          have := shl_or rh (rl / 9223372036854775808) (by omega)
          rw [show ((rl : Int) / 9223372036854775808) = ((rl / 9223372036854775808 : Nat) : Int) by omega, this]
          omega
        have E2 : bits BinOp.or IntKind.u64 (IntKind.u64.wrap ((rl : Int) * 2)) (bits BinOp.and IntKind.u64 ((wd : Int) / 2 ^ sh) 1) = (ml : Int) := by
          have h0 := HMP.out; have h1 := HQR.out; have h2 := HT.out; have h3 := HY7.out
          rw [and_1 wd sh hwd, HBIT.out, shl_or rl b (by omega)]
          omega
        rw [E1, E2]
        clear E1 E2
        have HEN := hid (cells3' (.int .u64 (mh : Int)) (.int .u64 (ml : Int)) HE'.out)
        have HKN := hid ((HKR.out.setCell (p := ⟨se, 1, none⟩) (.inr rfl) (.int .u64 (mh : Int))).setCell (p := ⟨se, 2, none⟩) (.inr rfl) (.int .u64 (ml : Int)))
        have HQN : Hid (((wc.setCell ⟨se, 1, none⟩ (.int .u64 (mh : Int))).setCell ⟨se, 2, none⟩ (.int .u64 (ml : Int))).heap[sq]? = some (.cells #[.bool false, .int .u64 (qh : Int), .int .u64 (ql : Int)] 86 (0, 0))) := hid (by rw [hsc_ne _ hne, hsc_ne _ hne]; exact HQ'.out)
        generalize ((wc.setCell ⟨se, 1, none⟩ (.int .u64 (mh : Int))).setCell ⟨se, 2, none⟩ (.int .u64 (ml : Int))) = w3 at *
        clear e1 e2 q1 q2 fe1 fe2 fq1 fq2 HQ' HE' HAR HBR HRR HTR
        have q1 : w3.cell? ⟨sq, 1, none⟩ = some (.int .u64 (qh : Int)) := cell_of HQN.out (by rfl)
        have q2 : w3.cell? ⟨sq, 2, none⟩ = some (.int .u64 (ql : Int)) := cell_of HQN.out (by rfl)
        have fq1 := free_of HQN.out 1; have fq2 := free_of HQN.out 2
        go_upto_region 10 with fail
        have E1 : bits BinOp.or IntKind.u64 (IntKind.u64.wrap ((qh : Int) * 2)) ((ql : Int) / 9223372036854775808) = (ph : Int) := by
          have h0 := HMP.out; have h1 := HQR.out; have h2 := HTQ.out
          have := shl_or qh (ql / 9223372036854775808) (by omega)
          rw [show ((ql : Int) / 9223372036854775808) = ((ql / 9223372036854775808 : Nat) : Int) by omega, this]
          omega
        have E2 : IntKind.u64.wrap ((ql : Int) * 2) = (pl : Int) := by
          have h0 := HMP.out; have h1 := HQR.out
          have := IntKind.wrap_u64 ((ql : Int) * 2); omega
        rw [E1, E2]
        clear E1 E2
        have HQ4 := hid (cells3' (.int .u64 (ph : Int)) (.int .u64 (pl : Int)) HQN.out)
        have HK4 := hid ((HKN.out.setCell (p := ⟨sq, 1, none⟩) (.inl rfl) (.int .u64 (ph : Int))).setCell (p := ⟨sq, 2, none⟩) (.inl rfl) (.int .u64 (pl : Int)))
        have HE4 : Hid (((w3.setCell ⟨sq, 1, none⟩ (.int .u64 (ph : Int))).setCell ⟨sq, 2, none⟩ (.int .u64 (pl : Int))).heap[se]? = some (.cells #[.bool false, .int .u64 (mh : Int), .int .u64 (ml : Int)] 86 (0, 0))) := hid (by rw [hsc_ne _ hne2, hsc_ne _ hne2]; exact HEN.out)
        generalize ((w3.setCell ⟨sq, 1, none⟩ (.int .u64 (ph : Int))).setCell ⟨sq, 2, none⟩ (.int .u64 (pl : Int))) = w4 at *
        clear q1 q2 fq1 fq2 HQN HEN HKN
        have HB4 := hid (HK4.out.get HB2.out (by have := HN.out; omega))
        have HSZ := hid (size_m HMP.out.1 HMP.out.2.1 (by have := HT.out; have := HY7.out; omega) HFY.out w4)
        have e0 : w4.cell? ⟨se, 0, none⟩ = some (.bool false) := cell_of HE4.out (by rfl)
        have e1 : w4.cell? ⟨se, 1, none⟩ = some (.int .u64 (mh : Int)) := cell_of HE4.out (by rfl)
        have e2 : w4.cell? ⟨se, 2, none⟩ = some (.int .u64 (ml : Int)) := cell_of HE4.out (by rfl)
        have b0 : w4.cell? ⟨sy, 0, none⟩ = some (.bool y.neg) := cell_of HB4.out (by rfl)
        have b1 : w4.cell? ⟨sy, 1, none⟩ = some (.int .u64 (y.hi : Int)) := cell_of HB4.out (by rfl)
        have b2 : w4.cell? ⟨sy, 2, none⟩ = some (.int .u64 (y.lo : Int)) := cell_of HB4.out (by rfl)
        clear HQR
        go_wp2_with fail
        refine HSZ.out.mono ?_
        rintro r5 w5 ⟨rfl, hk⟩
        have HK5 := hid (HK4.out.trans (hk.mono (fun _ _ f => f.elim))); have HB5 := hid (hk.get HB4.out id); have HE5 := hid (hk.get HE4.out id); have HQ5 := hid (hk.get HQ4.out id)
        clear hk e0 e1 e2 b0 b1 b2 HSZ HB4 HE4 HQ4 HK4
        by_cases hle : y.mag ≤ 2 * r + b
        · have g1 : decide ((0 : Int) ≤ cmpN (2 * r + b) y.mag) = true := by rw [cmp_ge]; exact decide_eq_true hle
          have HLE := hid hle
          have HV : Hid (x.mag / 2 ^ j / y.mag = 2 * q + 1 ∧ x.mag / 2 ^ j % y.mag = 2 * r + b - y.mag) := hid (by
            have h1 := HT.out
            rw [h1.1]
            refine div_of ?_ (by omega)
            rw [Nat.add_mul, Nat.mul_add, ← Nat.mul_assoc]
            omega)
          clear hle
          obtain ⟨lo, hlo⟩ : ∃ lo, (ml + 18446744073709551616 - y.lo - 0) % 18446744073709551616 = lo := ⟨_, rfl⟩
          obtain ⟨cr, hcr⟩ : ∃ cr : Nat, (if ml < y.lo + 0 then 1 else 0) = cr := ⟨_, rfl⟩
          obtain ⟨hi, hhi⟩ : ∃ hi, (mh + 18446744073709551616 - y.hi - cr) % 18446744073709551616 = hi := ⟨_, rfl⟩
          obtain ⟨c2, hc2⟩ : ∃ c2 : Nat, (if mh < y.hi + cr then 1 else 0) = c2 := ⟨_, rfl⟩
          have hcr1 : cr ≤ 1 := by rw [← hcr]; split <;> omega
          have HD : Hid ((2 * r + b - y.mag) / 18446744073709551616 = hi ∧ (2 * r + b - y.mag) % 18446744073709551616 = lo) := hid (by
            have h0 := HMP.out; have h1 := HT.out; have h2 := HLE.out; have h3 := HFY.out; have h4 := HY7.out
            clear hc2
            obtain ⟨y1, y2⟩ := h3
            unfold WI.mag at *
            split at hcr <;> omega)
          have s1 : (callFunc 185 #[.int .u64 (ml : Int), .int .u64 (y.lo : Int), .int .u64 0]).run Tryz.prog w5 = .ok (.value (.tuple #[.int .u64 (lo : Int), .int .u64 (cr : Int)])) w5 := by
            have := ext_sub64 ml y.lo 0 (by omega) w5
            rwa [hlo, hcr] at this
          have s2 : (callFunc 185 #[.int .u64 (mh : Int), .int .u64 (y.hi : Int), .int .u64 (cr : Int)]).run Tryz.prog w5 = .ok (.value (.tuple #[.int .u64 (hi : Int), .int .u64 (c2 : Int)])) w5 := by
            have := ext_sub64 mh y.hi cr hcr1 w5
            rwa [hhi, hc2] at this
          clear hlo hcr hhi hc2 hcr1
          have e1 : w5.cell? ⟨se, 1, none⟩ = some (.int .u64 (mh : Int)) := cell_of HE5.out (by rfl)
          have e2 : w5.cell? ⟨se, 2, none⟩ = some (.int .u64 (ml : Int)) := cell_of HE5.out (by rfl)
          have b1 : w5.cell? ⟨sy, 1, none⟩ = some (.int .u64 (y.hi : Int)) := cell_of HB5.out (by rfl)
          have b2 : w5.cell? ⟨sy, 2, none⟩ = some (.int .u64 (y.lo : Int)) := cell_of HB5.out (by rfl)
          have q2 : w5.cell? ⟨sq, 2, none⟩ = some (.int .u64 (pl : Int)) := cell_of HQ5.out (by rfl)
          have fe1 := free_of HE5.out 1; have fe2 := free_of HE5.out 2; have fq2 := free_of HQ5.out 2
          obtain ⟨p2, hp2⟩ : ∃ n, pl + 1 = n := ⟨_, rfl⟩
          have HP2 := hid hp2
          have O1 : bits BinOp.or IntKind.u64 (pl : Int) 1 = (p2 : Int) := by
            have h0 := HMP.out.2.2.2
            rw [← hp2]
            have := or_1 (pl / 2) (by omega)
            rwa [show 2 * (pl / 2) = pl by omega] at this
          clear hp2
          have HEZ : Hid (((w5.setCell ⟨se, 1, none⟩ (.int .u64 (hi : Int))).setCell ⟨se, 2, none⟩ (.int .u64 (lo : Int))).heap[se]? = some (.cells (WC (dW (x.mag / 2 ^ j % y.mag))) 86 (0, 0))) := hid (by rw [HV.out.2, dW_cells HD.out.1 HD.out.2]; exact cells3' _ _ HE5.out)
          have HQZ : Hid ((((w5.setCell ⟨se, 1, none⟩ (.int .u64 (hi : Int))).setCell ⟨se, 2, none⟩ (.int .u64 (lo : Int))).setCell ⟨sq, 2, none⟩ (.int .u64 (p2 : Int))).heap[sq]? = some (.cells (WC (dW (x.mag / 2 ^ j / y.mag))) 86 (0, 0))) := hid (by
            rw [HV.out.1, dW_cells (m := 2 * q + 1) (h := ph) (l := p2) (by have := HMP.out; omega) (by have := HMP.out; have := HP2.out; omega)]
            rw [hsc_same (show ((w5.setCell ⟨se, 1, none⟩ (.int .u64 (hi : Int))).setCell ⟨se, 2, none⟩ (.int .u64 (lo : Int))).heap[sq]? = some (.cells #[.bool false, .int .u64 (ph : Int), .int .u64 (pl : Int)] 86 (0, 0)) by rw [hsc_ne _ hne, hsc_ne _ hne]; exact HQ5.out) 2 _]
            rfl)
          have HEY : Hid ((((w5.setCell ⟨se, 1, none⟩ (.int .u64 (hi : Int))).setCell ⟨se, 2, none⟩ (.int .u64 (lo : Int))).setCell ⟨sq, 2, none⟩ (.int .u64 (p2 : Int))).heap[se]? = some (.cells (WC (dW (x.mag / 2 ^ j % y.mag))) 86 (0, 0))) := hid (by rw [hsc_ne _ hne2]; exact HEZ.out)
          have HKZ := hid (((HK5.out.setCell (p := ⟨se, 1, none⟩) (.inr rfl) (.int .u64 (hi : Int))).setCell (p := ⟨se, 2, none⟩) (.inr rfl) (.int .u64 (lo : Int))).setCell (p := ⟨sq, 2, none⟩) (.inl rfl) (.int .u64 (p2 : Int)))
          go_wp2
          go_roundw
          case rel => exact ⟨j, by omega, by go_num, HQZ.out, HEY.out, HKZ.out⟩
          case measure => simp [intOf] <;> omega
        · have g1 : decide ((0 : Int) ≤ cmpN (2 * r + b) y.mag) = false := by rw [cmp_ge]; exact decide_eq_false hle
          have HV : Hid (x.mag / 2 ^ j / y.mag = 2 * q ∧ x.mag / 2 ^ j % y.mag = 2 * r + b) := hid (by rw [HT.out.1]; exact div_of (by rw [Nat.mul_add, ← Nat.mul_assoc, Nat.add_assoc]) (by omega))
          have HQZ : Hid (w5.heap[sq]? = some (.cells (WC (dW (x.mag / 2 ^ j / y.mag))) 86 (0, 0))) := hid (by rw [HV.out.1, dW_cells HMP.out.2.2.1 HMP.out.2.2.2]; exact HQ5.out)
          have HEZ : Hid (w5.heap[se]? = some (.cells (WC (dW (x.mag / 2 ^ j % y.mag))) 86 (0, 0))) := hid (by rw [HV.out.2, dW_cells HMP.out.1 HMP.out.2.1]; exact HE5.out)
          clear hle
          go_wp2
          go_roundw
          case rel => exact ⟨j, by omega, by go_num, HQZ.out, HEZ.out, HK5.out⟩
          case measure => simp [intOf] <;> omega
end Go.Proofs.YtlhdofkgcbmnnaaGreat

namespace Go.Proofs.Wide
def quoW (x y : WI) : WI × Nat := if badW x y true = true then (zW, 1) else (ofM (x.neg != y.neg) (x.mag / y.mag), 0)
def remW (x y : WI) : WI × Nat := if badW x y true = true then (zW, 1) else (ofM x.neg (x.mag % y.mag), 0)
theorem badD_no {x y : WI} (h : badW x y true = false) : x.form = true ∧ y.form = true ∧ 0 < y.mag := by
  unfold badW at h
  simp at h
  obtain ⟨⟨h1, h2⟩, h3⟩ := h
  exact ⟨h1, h2, by omega⟩
theorem quoW_fit {x y : WI} (hx : x.fit) : (quoW x y).1.fit := by
  unfold quoW
  split
  · exact zW_fit
  · exact ofM_fit _ (Nat.lt_of_le_of_lt (Nat.div_le_self _ _) (mag_lt hx))
theorem remW_fit {x y : WI} (hx : x.fit) : (remW x y).1.fit := by
  unfold remW
  split
  · exact zW_fit
  · exact ofM_fit _ (Nat.lt_of_le_of_lt (Nat.mod_le _ _) (mag_lt hx))
end Go.Proofs.Wide
namespace Go.Proofs.YtlhdofkgcbmnnaaGreat
open Go.RowKit Go.Proofs.Heap Go.Proofs.Wide

theorem made_ofM (ng : Bool) (m : Nat) (hm : m < 340282366920938463463374607431768211456) (w : World) : Calls Tryz.prog 66 #[.bool ng, .int .u64 ((m / 18446744073709551616 : Nat) : Int), .int .u64 ((m % 18446744073709551616 : Nat) : Int)] w fun r w' => r = .returned (WV (ofM ng m)) ∧ Keep (fun _ => False) w w' := by
  have := w_made ng (m / 18446744073709551616) (m % 18446744073709551616) (by omega) (by omega) w
  rw [norm_of ng (by omega), show m / 18446744073709551616 * 18446744073709551616 + m % 18446744073709551616 = m by omega] at this
  exact this

set_option maxRecDepth 20000 in
set_option maxHeartbeats 8000000 in
theorem w_quoU (x y : WI) (hx : x.fit) (hy : y.fit) (w : World) : Calls Tryz.prog 150 #[WV x, WV y] w fun r w' => r = .returned (.tuple #[WV (quoW x y).1, iV (quoW x y).2]) ∧ Keep (fun _ => False) w w' := by
  obtain ⟨w1, hw1, hb1, hb2, hb3, hs1, hk1⟩ := box3 w (WC x) (WC y) Z3 86 86 86
  have HK1 := hid hk1; have HA1 := hid hb1; have HB1 := hid hb2; have HR1 := hid hb3
  have HFX := hid hx; have HFY := hid hy
  clear hb1 hb2 hb3 hs1 hk1 hx hy
  go_enter Tryz.func150, Tryz.ntmps150
  go_upto_region 1 with fail
  rw [← hw1]
  clear hw1
  obtain ⟨sa, hsa⟩ : ∃ sa, w.heap.size = sa := ⟨_, rfl⟩
  obtain ⟨sb, hsb⟩ : ∃ sb, w.heap.size + 1 = sb := ⟨_, rfl⟩
  obtain ⟨sr, hsr⟩ : ∃ sr, w.heap.size + 1 + 1 = sr := ⟨_, rfl⟩
  have HSR : Hid (w.heap.size ≤ sr ∧ w.heap.size ≤ sa ∧ w.heap.size ≤ sb ∧ sa ≠ sr ∧ sb ≠ sr ∧ sa ≠ sb) := hid (by omega)
  rw [hsr] at HR1 ⊢
  rw [hsb] at HB1 ⊢
  rw [hsa] at HA1 ⊢
  clear hsa hsb hsr
  have a0 : w1.cell? ⟨sa, 0, none⟩ = some (.bool x.neg) := cell_of HA1.out (by rfl)
  have a1 : w1.cell? ⟨sa, 1, none⟩ = some (.int .u64 (x.hi : Int)) := cell_of HA1.out (by rfl)
  have a2 : w1.cell? ⟨sa, 2, none⟩ = some (.int .u64 (x.lo : Int)) := cell_of HA1.out (by rfl)
  have b0 : w1.cell? ⟨sb, 0, none⟩ = some (.bool y.neg) := cell_of HB1.out (by rfl)
  have b1 : w1.cell? ⟨sb, 1, none⟩ = some (.int .u64 (y.hi : Int)) := cell_of HB1.out (by rfl)
  have b2 : w1.cell? ⟨sb, 2, none⟩ = some (.int .u64 (y.lo : Int)) := cell_of HB1.out (by rfl)
  obtain ⟨bd, hbd⟩ : ∃ bd, badW x y true = bd := ⟨_, rfl⟩
  have HBD := hid hbd
  have HCK := hid (w_checkU x y true HFX.out HFY.out w1)
  rw [hbd] at HCK
  clear hbd
  go_wp2_with fail
  refine HCK.out.mono ?_
  rintro r w2 ⟨rfl, hk⟩
  have HK2 := hid (HK1.out.trans hk); have HA2 := hid (hk.get HA1.out id); have HB2 := hid (hk.get HB1.out id); have HR2 := hid (hk.get HR1.out id)
  clear hk HCK
  clear a0 a1 a2 b0 b1 b2
  cases bd
  rotate_left
  · as_aux_lemma =>
    have G : Hid (quoW x y = (zW, 1)) := hid (if_pos HBD.out)
    have f0 := free_of HR2.out 0
    have f1 := free_of HR2.out 1
    have f2 := free_of HR2.out 2
    have c0 := cell_of HR2.out (i := 0) (by rfl)
    have c1 := cell_of HR2.out (i := 1) (by rfl)
    have c2 := cell_of HR2.out (i := 2) (by rfl)
    go_wp2
    (try simp only [Exit.inBlock, Exit.then])
    refine bodyPost_ret (results_ct rfl _ rfl (run_loadVar_row _ sr _ 86 _ _ _ (cells3 (.bool false) (.int .u64 0) (.int .u64 0) HR2.out) Tryz.underlying86 rfl (by kernel_rfl))) rfl ?_
    exact ⟨by rw [G.out]; rfl, ((HK2.out.setCell_new (p := ⟨sr, 0, none⟩) (by show _ ≤ sr; have := HSR.out; omega) _).setCell_new (p := ⟨sr, 1, none⟩) (by show _ ≤ sr; have := HSR.out; omega) _).setCell_new (p := ⟨sr, 2, none⟩) (by show _ ≤ sr; have := HSR.out; omega) _⟩
  have G : Hid (quoW x y = (ofM (x.neg != y.neg) (x.mag / y.mag), 0)) := hid (by unfold quoW; rw [if_neg (by rw [HBD.out]; decide)])
  have HFO := hid (badD_no HBD.out)
  have a0 : w2.cell? ⟨sa, 0, none⟩ = some (.bool x.neg) := cell_of HA2.out (by rfl)
  have a1 : w2.cell? ⟨sa, 1, none⟩ = some (.int .u64 (x.hi : Int)) := cell_of HA2.out (by rfl)
  have a2 : w2.cell? ⟨sa, 2, none⟩ = some (.int .u64 (x.lo : Int)) := cell_of HA2.out (by rfl)
  have b0 : w2.cell? ⟨sb, 0, none⟩ = some (.bool y.neg) := cell_of HB2.out (by rfl)
  have b1 : w2.cell? ⟨sb, 1, none⟩ = some (.int .u64 (y.hi : Int)) := cell_of HB2.out (by rfl)
  have b2 : w2.cell? ⟨sb, 2, none⟩ = some (.int .u64 (y.lo : Int)) := cell_of HB2.out (by rfl)
  have HDV := hid (w_divide x y HFX.out HFY.out HFO.out.2.2 (mag_form HFY.out HFO.out.2.1) w2)
  have HMD : Hid (x.mag / y.mag < 340282366920938463463374607431768211456) := hid (Nat.lt_of_le_of_lt (by first | exact Nat.div_le_self _ _ | exact Nat.mod_le _ _) (mag_lt HFX.out))
  go_wp2_with fail
  refine HDV.out.mono ?_
  rintro r w3 ⟨rfl, hk⟩
  have HK3 := hid (HK2.out.trans hk); have HA3 := hid (hk.get HA2.out id); have HB3 := hid (hk.get HB2.out id); have HR3 := hid (hk.get HR2.out id)
  clear hk HDV
  clear a0 a1 a2 b0 b1 b2
  obtain ⟨U, hU⟩ : ∃ U, dW (x.mag / y.mag) = U := ⟨_, rfl⟩
  obtain ⟨V, hV⟩ : ∃ V, dW (x.mag % y.mag) = V := ⟨_, rfl⟩
  simp only [hU, hV]
  have HUV := hid (And.intro hU hV)
  clear hU hV
  obtain ⟨w4, hw4, hb1, hb2, hs4, hk4⟩ := box2 w3 (WC U) (WC V) 86 86
  have HK4 := hid (HK3.out.trans hk4); have HA4 := hid (hk4.get HA3.out id); have HB4 := hid (hk4.get HB3.out id); have HR4 := hid (hk4.get HR3.out id); have HU4 := hid hb1; have HV4 := hid hb2
  clear hb1 hb2 hs4 hk4
  go_upto_region 5 with fail
  rw [← hw4]
  clear hw4
  obtain ⟨su, hsu⟩ : ∃ s, w3.heap.size = s := ⟨_, rfl⟩
  obtain ⟨sv, hsv⟩ : ∃ s, w3.heap.size + 1 = s := ⟨_, rfl⟩
  rw [hsv] at HV4 ⊢
  rw [hsu] at HU4 ⊢
  clear hsu hsv
  have a0 : w4.cell? ⟨sa, 0, none⟩ = some (.bool x.neg) := cell_of HA4.out (by rfl)
  have a1 : w4.cell? ⟨sa, 1, none⟩ = some (.int .u64 (x.hi : Int)) := cell_of HA4.out (by rfl)
  have a2 : w4.cell? ⟨sa, 2, none⟩ = some (.int .u64 (x.lo : Int)) := cell_of HA4.out (by rfl)
  have b0 : w4.cell? ⟨sb, 0, none⟩ = some (.bool y.neg) := cell_of HB4.out (by rfl)
  have b1 : w4.cell? ⟨sb, 1, none⟩ = some (.int .u64 (y.hi : Int)) := cell_of HB4.out (by rfl)
  have b2 : w4.cell? ⟨sb, 2, none⟩ = some (.int .u64 (y.lo : Int)) := cell_of HB4.out (by rfl)
  have p0 : w4.cell? ⟨su, 0, none⟩ = some (.bool U.neg) := cell_of HU4.out (by rfl)
  have p1 : w4.cell? ⟨su, 1, none⟩ = some (.int .u64 (U.hi : Int)) := cell_of HU4.out (by rfl)
  have p2 : w4.cell? ⟨su, 2, none⟩ = some (.int .u64 (U.lo : Int)) := cell_of HU4.out (by rfl)
  have q0 : w4.cell? ⟨sv, 0, none⟩ = some (.bool V.neg) := cell_of HV4.out (by rfl)
  have q1 : w4.cell? ⟨sv, 1, none⟩ = some (.int .u64 (V.hi : Int)) := cell_of HV4.out (by rfl)
  have q2 : w4.cell? ⟨sv, 2, none⟩ = some (.int .u64 (V.lo : Int)) := cell_of HV4.out (by rfl)
  have HMM : Hid (Calls Tryz.prog 66 #[.bool (x.neg != y.neg), .int .u64 (U.hi : Int), .int .u64 (U.lo : Int)] w4 fun r w' => r = .returned (WV (ofM (x.neg != y.neg) (x.mag / y.mag))) ∧ Keep (fun _ => False) w4 w') := hid (by
    have := made_ofM (x.neg != y.neg) (x.mag / y.mag) HMD.out w4
    rw [← HUV.out.1]
    exact this)
  go_wp2_with fail
  refine HMM.out.mono ?_
  rintro r w5 ⟨rfl, hk⟩
  have HK5 := hid (HK4.out.trans hk); have HR5 := hid (hk.get HR4.out id)
  clear hk HMM
  clear a0 a1 a2 b0 b1 b2 p0 p1 p2 q0 q1 q2
  obtain ⟨z, hz⟩ : ∃ z, ofM (x.neg != y.neg) (x.mag / y.mag) = z := ⟨_, rfl⟩
  rw [hz]
  have HZ := hid hz
  clear hz
  have f0 := free_of HR5.out 0
  have f1 := free_of HR5.out 1
  have f2 := free_of HR5.out 2
  have c0 := cell_of HR5.out (i := 0) (by rfl)
  have c1 := cell_of HR5.out (i := 1) (by rfl)
  have c2 := cell_of HR5.out (i := 2) (by rfl)
  go_wp2
  (try simp only [Exit.inBlock, Exit.then])
  refine bodyPost_ret (results_ct rfl _ rfl (run_loadVar_row _ sr _ 86 _ _ _ (cells3 (.bool z.neg) (.int .u64 (z.hi : Int)) (.int .u64 (z.lo : Int)) HR5.out) Tryz.underlying86 rfl (by kernel_rfl))) rfl ?_
  exact ⟨by rw [G.out, HZ.out]; rfl, ((HK5.out.setCell_new (p := ⟨sr, 0, none⟩) (by show _ ≤ sr; have := HSR.out; omega) _).setCell_new (p := ⟨sr, 1, none⟩) (by show _ ≤ sr; have := HSR.out; omega) _).setCell_new (p := ⟨sr, 2, none⟩) (by show _ ≤ sr; have := HSR.out; omega) _⟩

set_option maxRecDepth 20000 in
set_option maxHeartbeats 8000000 in
theorem w_remU (x y : WI) (hx : x.fit) (hy : y.fit) (w : World) : Calls Tryz.prog 151 #[WV x, WV y] w fun r w' => r = .returned (.tuple #[WV (remW x y).1, iV (remW x y).2]) ∧ Keep (fun _ => False) w w' := by
  obtain ⟨w1, hw1, hb1, hb2, hb3, hs1, hk1⟩ := box3 w (WC x) (WC y) Z3 86 86 86
  have HK1 := hid hk1; have HA1 := hid hb1; have HB1 := hid hb2; have HR1 := hid hb3
  have HFX := hid hx; have HFY := hid hy
  clear hb1 hb2 hb3 hs1 hk1 hx hy
  go_enter Tryz.func151, Tryz.ntmps151
  go_upto_region 1 with fail
  rw [← hw1]
  clear hw1
  obtain ⟨sa, hsa⟩ : ∃ sa, w.heap.size = sa := ⟨_, rfl⟩
  obtain ⟨sb, hsb⟩ : ∃ sb, w.heap.size + 1 = sb := ⟨_, rfl⟩
  obtain ⟨sr, hsr⟩ : ∃ sr, w.heap.size + 1 + 1 = sr := ⟨_, rfl⟩
  have HSR : Hid (w.heap.size ≤ sr ∧ w.heap.size ≤ sa ∧ w.heap.size ≤ sb ∧ sa ≠ sr ∧ sb ≠ sr ∧ sa ≠ sb) := hid (by omega)
  rw [hsr] at HR1 ⊢
  rw [hsb] at HB1 ⊢
  rw [hsa] at HA1 ⊢
  clear hsa hsb hsr
  have a0 : w1.cell? ⟨sa, 0, none⟩ = some (.bool x.neg) := cell_of HA1.out (by rfl)
  have a1 : w1.cell? ⟨sa, 1, none⟩ = some (.int .u64 (x.hi : Int)) := cell_of HA1.out (by rfl)
  have a2 : w1.cell? ⟨sa, 2, none⟩ = some (.int .u64 (x.lo : Int)) := cell_of HA1.out (by rfl)
  have b0 : w1.cell? ⟨sb, 0, none⟩ = some (.bool y.neg) := cell_of HB1.out (by rfl)
  have b1 : w1.cell? ⟨sb, 1, none⟩ = some (.int .u64 (y.hi : Int)) := cell_of HB1.out (by rfl)
  have b2 : w1.cell? ⟨sb, 2, none⟩ = some (.int .u64 (y.lo : Int)) := cell_of HB1.out (by rfl)
  obtain ⟨bd, hbd⟩ : ∃ bd, badW x y true = bd := ⟨_, rfl⟩
  have HBD := hid hbd
  have HCK := hid (w_checkU x y true HFX.out HFY.out w1)
  rw [hbd] at HCK
  clear hbd
  go_wp2_with fail
  refine HCK.out.mono ?_
  rintro r w2 ⟨rfl, hk⟩
  have HK2 := hid (HK1.out.trans hk); have HA2 := hid (hk.get HA1.out id); have HB2 := hid (hk.get HB1.out id); have HR2 := hid (hk.get HR1.out id)
  clear hk HCK
  clear a0 a1 a2 b0 b1 b2
  cases bd
  rotate_left
  · as_aux_lemma =>
    have G : Hid (remW x y = (zW, 1)) := hid (if_pos HBD.out)
    have f0 := free_of HR2.out 0
    have f1 := free_of HR2.out 1
    have f2 := free_of HR2.out 2
    have c0 := cell_of HR2.out (i := 0) (by rfl)
    have c1 := cell_of HR2.out (i := 1) (by rfl)
    have c2 := cell_of HR2.out (i := 2) (by rfl)
    go_wp2
    (try simp only [Exit.inBlock, Exit.then])
    refine bodyPost_ret (results_ct rfl _ rfl (run_loadVar_row _ sr _ 86 _ _ _ (cells3 (.bool false) (.int .u64 0) (.int .u64 0) HR2.out) Tryz.underlying86 rfl (by kernel_rfl))) rfl ?_
    exact ⟨by rw [G.out]; rfl, ((HK2.out.setCell_new (p := ⟨sr, 0, none⟩) (by show _ ≤ sr; have := HSR.out; omega) _).setCell_new (p := ⟨sr, 1, none⟩) (by show _ ≤ sr; have := HSR.out; omega) _).setCell_new (p := ⟨sr, 2, none⟩) (by show _ ≤ sr; have := HSR.out; omega) _⟩
  have G : Hid (remW x y = (ofM (x.neg) (x.mag % y.mag), 0)) := hid (by unfold remW; rw [if_neg (by rw [HBD.out]; decide)])
  have HFO := hid (badD_no HBD.out)
  have a0 : w2.cell? ⟨sa, 0, none⟩ = some (.bool x.neg) := cell_of HA2.out (by rfl)
  have a1 : w2.cell? ⟨sa, 1, none⟩ = some (.int .u64 (x.hi : Int)) := cell_of HA2.out (by rfl)
  have a2 : w2.cell? ⟨sa, 2, none⟩ = some (.int .u64 (x.lo : Int)) := cell_of HA2.out (by rfl)
  have b0 : w2.cell? ⟨sb, 0, none⟩ = some (.bool y.neg) := cell_of HB2.out (by rfl)
  have b1 : w2.cell? ⟨sb, 1, none⟩ = some (.int .u64 (y.hi : Int)) := cell_of HB2.out (by rfl)
  have b2 : w2.cell? ⟨sb, 2, none⟩ = some (.int .u64 (y.lo : Int)) := cell_of HB2.out (by rfl)
  have HDV := hid (w_divide x y HFX.out HFY.out HFO.out.2.2 (mag_form HFY.out HFO.out.2.1) w2)
  have HMD : Hid (x.mag % y.mag < 340282366920938463463374607431768211456) := hid (Nat.lt_of_le_of_lt (by first | exact Nat.div_le_self _ _ | exact Nat.mod_le _ _) (mag_lt HFX.out))
  go_wp2_with fail
  refine HDV.out.mono ?_
  rintro r w3 ⟨rfl, hk⟩
  have HK3 := hid (HK2.out.trans hk); have HA3 := hid (hk.get HA2.out id); have HB3 := hid (hk.get HB2.out id); have HR3 := hid (hk.get HR2.out id)
  clear hk HDV
  clear a0 a1 a2 b0 b1 b2
  obtain ⟨U, hU⟩ : ∃ U, dW (x.mag / y.mag) = U := ⟨_, rfl⟩
  obtain ⟨V, hV⟩ : ∃ V, dW (x.mag % y.mag) = V := ⟨_, rfl⟩
  simp only [hU, hV]
  have HUV := hid (And.intro hU hV)
  clear hU hV
  obtain ⟨w4, hw4, hb1, hb2, hs4, hk4⟩ := box2 w3 (WC U) (WC V) 86 86
  have HK4 := hid (HK3.out.trans hk4); have HA4 := hid (hk4.get HA3.out id); have HB4 := hid (hk4.get HB3.out id); have HR4 := hid (hk4.get HR3.out id); have HU4 := hid hb1; have HV4 := hid hb2
  clear hb1 hb2 hs4 hk4
  go_upto_region 5 with fail
  rw [← hw4]
  clear hw4
  obtain ⟨su, hsu⟩ : ∃ s, w3.heap.size = s := ⟨_, rfl⟩
  obtain ⟨sv, hsv⟩ : ∃ s, w3.heap.size + 1 = s := ⟨_, rfl⟩
  rw [hsv] at HV4 ⊢
  rw [hsu] at HU4 ⊢
  clear hsu hsv
  have a0 : w4.cell? ⟨sa, 0, none⟩ = some (.bool x.neg) := cell_of HA4.out (by rfl)
  have a1 : w4.cell? ⟨sa, 1, none⟩ = some (.int .u64 (x.hi : Int)) := cell_of HA4.out (by rfl)
  have a2 : w4.cell? ⟨sa, 2, none⟩ = some (.int .u64 (x.lo : Int)) := cell_of HA4.out (by rfl)
  have b0 : w4.cell? ⟨sb, 0, none⟩ = some (.bool y.neg) := cell_of HB4.out (by rfl)
  have b1 : w4.cell? ⟨sb, 1, none⟩ = some (.int .u64 (y.hi : Int)) := cell_of HB4.out (by rfl)
  have b2 : w4.cell? ⟨sb, 2, none⟩ = some (.int .u64 (y.lo : Int)) := cell_of HB4.out (by rfl)
  have p0 : w4.cell? ⟨su, 0, none⟩ = some (.bool U.neg) := cell_of HU4.out (by rfl)
  have p1 : w4.cell? ⟨su, 1, none⟩ = some (.int .u64 (U.hi : Int)) := cell_of HU4.out (by rfl)
  have p2 : w4.cell? ⟨su, 2, none⟩ = some (.int .u64 (U.lo : Int)) := cell_of HU4.out (by rfl)
  have q0 : w4.cell? ⟨sv, 0, none⟩ = some (.bool V.neg) := cell_of HV4.out (by rfl)
  have q1 : w4.cell? ⟨sv, 1, none⟩ = some (.int .u64 (V.hi : Int)) := cell_of HV4.out (by rfl)
  have q2 : w4.cell? ⟨sv, 2, none⟩ = some (.int .u64 (V.lo : Int)) := cell_of HV4.out (by rfl)
  have HMM : Hid (Calls Tryz.prog 66 #[.bool (x.neg), .int .u64 (V.hi : Int), .int .u64 (V.lo : Int)] w4 fun r w' => r = .returned (WV (ofM (x.neg) (x.mag % y.mag))) ∧ Keep (fun _ => False) w4 w') := hid (by
    have := made_ofM (x.neg) (x.mag % y.mag) HMD.out w4
    rw [← HUV.out.2]
    exact this)
  go_wp2_with fail
  refine HMM.out.mono ?_
  rintro r w5 ⟨rfl, hk⟩
  have HK5 := hid (HK4.out.trans hk); have HR5 := hid (hk.get HR4.out id)
  clear hk HMM
  clear a0 a1 a2 b0 b1 b2 p0 p1 p2 q0 q1 q2
  obtain ⟨z, hz⟩ : ∃ z, ofM (x.neg) (x.mag % y.mag) = z := ⟨_, rfl⟩
  rw [hz]
  have HZ := hid hz
  clear hz
  have f0 := free_of HR5.out 0
  have f1 := free_of HR5.out 1
  have f2 := free_of HR5.out 2
  have c0 := cell_of HR5.out (i := 0) (by rfl)
  have c1 := cell_of HR5.out (i := 1) (by rfl)
  have c2 := cell_of HR5.out (i := 2) (by rfl)
  go_wp2
  (try simp only [Exit.inBlock, Exit.then])
  refine bodyPost_ret (results_ct rfl _ rfl (run_loadVar_row _ sr _ 86 _ _ _ (cells3 (.bool z.neg) (.int .u64 (z.hi : Int)) (.int .u64 (z.lo : Int)) HR5.out) Tryz.underlying86 rfl (by kernel_rfl))) rfl ?_
  exact ⟨by rw [G.out, HZ.out]; rfl, ((HK5.out.setCell_new (p := ⟨sr, 0, none⟩) (by show _ ≤ sr; have := HSR.out; omega) _).setCell_new (p := ⟨sr, 1, none⟩) (by show _ ≤ sr; have := HSR.out; omega) _).setCell_new (p := ⟨sr, 2, none⟩) (by show _ ≤ sr; have := HSR.out; omega) _⟩

end Go.Proofs.YtlhdofkgcbmnnaaGreat

namespace Go.Proofs.YtlhdofkgcbmnnaaGreat
open Go.RowKit Go.Proofs.Heap Go.Proofs.Wide

set_option maxRecDepth 20000 in
set_option maxHeartbeats 4000000 in
theorem b_mul64 (x y : Nat) (hx : x < 18446744073709551616) (hy : y < 18446744073709551616) (w : World) :
    Calls Tryz.prog 176 #[.int .u64 (x : Int), .int .u64 (y : Int)] w fun e w' => e = .returned (.tuple #[.int .u64 ((x * y / 18446744073709551616 : Nat) : Int), .int .u64 ((x * y % 18446744073709551616 : Nat) : Int)]) ∧ w = w' := by
  obtain ⟨bd, bt, bw, hhi⟩ := Lib.mul64_hi x y hx hy
  have ba := Lib.half_mul_le (a := x / 4294967296) (b := y / 4294967296) (by omega) (by omega)
  have bb := Lib.half_mul_le (a := x / 4294967296) (b := y % 4294967296) (by omega) (by omega)
  have bc := Lib.half_mul_le (a := x % 4294967296) (b := y / 4294967296) (by omega) (by omega)
  have ba' : x / 4294967296 * (y / 4294967296) < 18446744073709551616 := by omega
  have bb' : x / 4294967296 * (y % 4294967296) < 18446744073709551616 := by omega
  have bc' : x % 4294967296 * (y / 4294967296) < 18446744073709551616 := by omega
  have bh1 : x / 4294967296 * (y / 4294967296) + (x / 4294967296 * (y % 4294967296) + x % 4294967296 * (y % 4294967296) / 4294967296) / 4294967296 < 18446744073709551616 := by omega
  have bh : x / 4294967296 * (y / 4294967296) + (x / 4294967296 * (y % 4294967296) + x % 4294967296 * (y % 4294967296) / 4294967296) / 4294967296 + ((x / 4294967296 * (y % 4294967296) + x % 4294967296 * (y % 4294967296) / 4294967296) % 4294967296 + x % 4294967296 * (y / 4294967296)) / 4294967296 < 18446744073709551616 := by omega
  go_enter Tryz.func176, Tryz.ntmps176
  go_wp2
  simp only [Mul64.maskN x hx, Mul64.maskN y hy, Mul64.divN, Mul64.mulN, Mul64.addN, Mul64.wrapN _ bd, Mul64.wrapN _ bb', Mul64.wrapN _ bt, Mul64.maskN _ bt, Mul64.wrapN _ bc', Mul64.wrapN _ bw, Mul64.wrapN _ ba', Mul64.wrapN _ bh1, Mul64.wrapN _ bh, Mul64.wrapM (x * y)]
  rw [hhi]
  go_ret2
  exact ⟨rfl, rfl⟩
end Go.Proofs.YtlhdofkgcbmnnaaGreat
