/- What is proved: craft's named: the numbers that an instruction's row names; an instruction's line. -/
import Derived.Test.YtbnhdmalkmcalaaDoorMRf9
import Derived.Lib.ConvBytes
import Derived.Test.YtbnhdmalkmcalaaDoorMRdr
import Derived.Test.YtbnhdmalkmcalaaDoorMRegion
import Derived.BigQuiet
namespace Go.Proofs.YtbnhdmalkmcalaaDoor
open Go.RowKit Go.Proofs.Heap Go.Proofs.Sch Go.Proofs.IMap

theorem wfI {c : Int} (h : -9223372036854775808 ≤ c ∧ c ≤ 9223372036854775807) : (Lit.int .i64 c).wf = true := by
  have h1 : IntKind.i64.min = -9223372036854775808 := by decide
  have h2 : IntKind.i64.max = 9223372036854775807 := by decide
  simp [Lit.wf]
  omega
/-- A text's bytes, in a block of their own. -/
theorem str_bytes (s : ByteArray) (w : World) : ∃ (c : Nat) (w' : World) (C : Array Value) (fr : Nat × Nat), (convert 9 55 (.string s)).run Tryd.prog w = .ok (.slice (some ⟨w.heap.size, 0, none⟩) s.size c) w' ∧ w'.heap[w.heap.size]? = some (.cells C 5 fr) ∧ (∀ (j : Nat) (b : UInt8), s.data.toList[j]? = some b → C[j]? = some (Value.int .u8 b.toNat)) ∧ Keep (fun _ => False) w w' := by
  refine ⟨_, _, _, _, Lib.run_convert_string_bytes w _ _ 5 s Tryd.underlying9 Tryd.underlying55 Tryd.underlying5, Lib.bytesWorld_at_new w _ s, ?_, ?_⟩
  · intro j b hj
    have hlt : j < s.data.size := by
      have := (List.getElem?_eq_some_iff.1 hj).1
      rwa [Array.length_toList] at this
    unfold Lib.bytesCells
    rw [Array.getElem?_append_left (by simpa using hlt), Array.getElem?_map]
    have h2 : s.data[j]? = some b := by rw [← Array.getElem?_toList]; exact hj
    rw [h2]; rfl
  · exact ⟨rfl, rfl, rfl, by rw [Lib.bytesWorld_size]; omega, fun k hk _ => Lib.bytesWorld_at_old w _ s k hk⟩

/-- The number that a letter names. -/
def valF (x : VOp) : Int → Int := put (put (put (put (fun _ => 0) 65 x.a) 66 x.b) 67 x.c) 75 x.k
def valB (x : VOp) (b : UInt8) : Int := valF x (b.toNat : Int)
theorem args_val (x : VOp) : (namesS (namesN x.code)).data.toList.map (valB x) = argsL x := by
  unfold argsL
  have hn := names_lt x.code
  generalize namesN x.code = k at *
  rcases (show k = 0 ∨ k = 1 ∨ k = 2 ∨ k = 3 by omega) with rfl | rfl | rfl | rfl <;> simp [namesS, valB, valF, put]
theorem vals_next {l : List UInt8} {k : Nat} {b : UInt8} (x : VOp) (h : l[k]? = some b) : (l.take (k + 1)).map (valB x) = (l.take k).map (valB x) ++ [valB x b] := by
  rw [take_next h, List.map_append]; rfl
theorem info_i64L : (Tryd.prog.info? 3).map (fun i => (i.zero, i.size, i.bytes)) = some (some (.int .i64 0), 1, 8) := by kernel_rfl
theorem namesS_len (k : Nat) : (namesS k).size ≤ 3 := by
  unfold namesS
  split
  · decide
  · split
    · decide
    · split <;> decide
/-- The bounds of an int. -/
def IB (c : Int) : Prop := -9223372036854775808 ≤ c ∧ c ≤ 9223372036854775807
structure OpB (x : VOp) : Prop where
  a : IB x.a
  b : IB x.b
  c : IB x.c
  k : IB x.k
theorem u8_wf (b : UInt8) : (Lit.int .u8 (b.toNat : Int)).wf = true := by
  have h1 : IntKind.u8.min = 0 := by decide
  have h2 : IntKind.u8.max = 255 := by decide
  have := b.toNat_lt
  simp [Lit.wf]
  omega

theorem zero_i64L (w : World) : (zeroValue 3).run Tryd.prog w = .ok (.int .i64 0) w := by kernel_rfl
set_option maxRecDepth 20000 in
set_option maxHeartbeats 8000000 in
theorem craft_named (x : VOp) (hx : OpB x) (w : World) : Calls Tryd.prog 105 #[OV x] w fun r w' => ∃ a c, r = .returned (.slice a (argsL x).length c) ∧ w'.ownsRow w.heap.size 3 1 (.slice a (argsL x).length c) (argsL x).length ((argsL x).map (fun i => Value.int .i64 i)) ∧ Keep (fun _ => False) w w' := by
  obtain ⟨i0, hi0, hz0, hz1, hz2⟩ := info_parts' info_i64L
  have HX := hid hx
  have HAV := hid (args_val x)
  have HNL := hid (namesS_len (namesN x.code))
  obtain ⟨w1, hw1, hb1, hs1, hk1⟩ := box1 w (OC x) 50
  have HK1 := hid hk1; have HB1 := hid hb1
  have HLT := hid (lt_of_heap hb1)
  have c0 := cell_of hb1 (i := 0) (by rfl)
  have c1 := cell_of hb1 (i := 1) (by rfl)
  have c2 := cell_of hb1 (i := 2) (by rfl)
  have c3 := cell_of hb1 (i := 3) (by rfl)
  have c4 := cell_of hb1 (i := 4) (by rfl)
  clear hb1 hs1 hk1 hx
  go_enter Tryd.func105, Tryd.ntmps105
  go_upto_region 2 with fail
  rw [← hw1]
  clear hw1
  have HWX := hid (Nat.le_refl w.heap.size)
  generalize hxb : w.heap.size = xb at *
  go_wp2_with fail
  refine (of_opW x _).mono ?_
  rintro r w2 ⟨rfl, hk2⟩
  have HK2 := hid (HK1.out.trans hk2)
  have HB2 := hid (hk2.get HB1.out id)
  clear hk2 c0 c1 c2 c3 c4
  have hfd := field_row1 (wordI x.code) (namesS (namesN x.code)) (takesV x.code : Int) (putsV x.code : Int) w2
  simp only [RV4]
  obtain ⟨N, hN⟩ : ∃ N, namesS (namesN x.code) = N := ⟨_, rfl⟩
  rw [hN] at HAV HNL hfd ⊢
  clear hN
  generalize wordI x.code = wd at *
  generalize takesV x.code = tk at *
  generalize putsV x.code = pt at *
  obtain ⟨c, w3, C, fr, hcv, hbk, hC, hk3⟩ := str_bytes N w2
  have HK3 := hid (HK2.out.trans hk3)
  have HB3 := hid (hk3.get HB2.out id)
  have HBK := hid hbk; have HC := hid hC
  have HLB : Hid (w2.heap.size < w3.heap.size) := hid (lt_of_heap hbk)
  clear hbk hC hk3
  go_wp2_with fail
  clear hcv hfd
  generalize hsb : w2.heap.size = sb at *
  have hmm := @run_makeMap Tryd.prog
  have hNs : N.size = N.data.toList.length := (Array.length_toList).symm
  have HNS := hid hNs
  clear hNs
  obtain ⟨L, hL⟩ : ∃ L, N.data.toList = L := ⟨_, rfl⟩
  rw [hL] at HAV HC HNS
  clear hL
  have HW3 : Hid (w.heap.size ≤ w3.heap.size) := hid HK3.out.size
  go_loopw [3, 5, 11] (fun v _ i wr => ∃ k : Nat, k ≤ L.length ∧ i = iV k ∧ wr.ownsRow w3.heap.size 3 1 v k (((L.take k).map (valB x)).map (fun i => Value.int .i64 i)) ∧ Keep (fun _ => False) w3 wr) (fun _ _ i _ => L.length + 1 - (intOf i).toNat)
  case atStart => exact ⟨0, Nat.zero_le _, rfl, World.ownsRow_nil _ _ _ _, Keep.refl _ _⟩
  case round =>
    obtain ⟨k, hk, rfl, how, hkr⟩ := hrel
    obtain ⟨vp, vc, rfl⟩ := owns_val how
    have HO := hid how; have HKR := hid hkr
    clear how hkr
    by_cases hlt : k < L.length
    · obtain ⟨b, hbk⟩ : ∃ b, L[k]? = some b := ⟨L[k], by simp [hlt]⟩
      have HNX := hid (vals_next x hbk)
      have hl3 : L.length ≤ 3 := by have := HNS.out; have := HNL.out; omega
      have hb0 : wr.cell? ⟨sb, k, none⟩ = some (.int .u8 (b.toNat : Int)) := cell_of (HKR.out.get HBK.out id) (HC.out k b hbk)
      have hin : (0 : Int) ≤ (k : Int) ∧ (k : Int) < (N.size : Int) := ⟨by omega, by have := HNS.out; omega⟩
      have hg0 : decide ((k : Int) < (N.size : Int)) = true := decide_eq_true hin.2
      have hg1 : decide (k < N.size) = true := decide_eq_true (by have := HNS.out; omega)
      have HUW := hid (u8_wf b)
      have HVB : Hid (valB x b = valF x (b.toNat : Int)) := hid rfl
      generalize valB x b = vb at *
      generalize hbn : (b.toNat : Int) = bn at *
      clear hbk hbn
      have HBX := hid (HKR.out.get HB3.out id)
      have HM0 := hid (IM.made (P := Tryd.prog) (tK := 5) (tE := 3) (q := .u8) wr)
      have HKM := hid ((HKR.out.alloc (.map #[] 0)))
      obtain ⟨wm, hwm⟩ : ∃ wm, wr.alloc (.map #[] 0) = wm := ⟨_, rfl⟩
      have HMS : Hid (wr.heap.size ≤ wm.heap.size) := hid (by rw [← hwm]; exact ((Keep.refl (fun _ => False) wr).alloc _).size)
      have HMB : Hid (wm.heap[xb]? = some (.cells (OC x) 50 (0, 0))) := hid (by rw [← hwm]; exact ((Keep.refl (fun _ => False) wr).alloc _).get HBX.out id)
      have HMO : Hid (wm.ownsRow w3.heap.size 3 1 (.slice vp k vc) k (((L.take k).map (valB x)).map (fun i => Value.int .i64 i))) := hid (by rw [← hwm]; exact HO.out.alloc _)
      rw [hwm] at HM0 HKM
      have HBL : Hid (∀ j, j < w3.heap.size → j < wr.heap.size) := hid (fun j hj => Nat.lt_of_lt_of_le hj HKR.out.size)
      have HXL : Hid (xb < w3.heap.size) := hid (lt_of_heap HB3.out)
      obtain ⟨mb, hmb⟩ : ∃ mb, wr.heap.size = mb := ⟨_, rfl⟩
      have HMW : Hid (∀ t, (Instr.makeMap t none).run Tryd.prog wr = .ok (.map (some mb)) wm) := hid (fun t => by rw [hmm t wr, hwm, hmb])
      have HOL := hid (fun j hj => (HO.out.lt j hj).2)
      have hmw := HMW.out
      rw [hmb] at HM0 HMS HBL HOL
      have HMBS := hid hmb
      clear hmb hwm hmm
      have hmx : xb ≠ mb := by have := HBL.out xb HXL.out; omega
      obtain ⟨w4, hr4, hm4, hg4⟩ := HM0.out.put_run (t := 178) Tryd.underlying5 Tryd.underlying178 Tryd.underlying3 (by unfold maxLen; omega) 65 (by decide) x.a (wfI HX.out.a)
      obtain ⟨w5, hr5, hm5, hg5⟩ := hm4.put_run (t := 178) Tryd.underlying5 Tryd.underlying178 Tryd.underlying3 (by unfold maxLen; omega) 66 (by decide) x.b (wfI HX.out.b)
      obtain ⟨w6, hr6, hm6, hg6⟩ := hm5.put_run (t := 178) Tryd.underlying5 Tryd.underlying178 Tryd.underlying3 (by unfold maxLen; omega) 67 (by decide) x.c (wfI HX.out.c)
      obtain ⟨w7, hr7, hm7, hg7⟩ := hm6.put_run (t := 178) Tryd.underlying5 Tryd.underlying178 Tryd.underlying3 (by unfold maxLen; omega) 75 (by decide) x.k (wfI HX.out.k)
      have hlk := hm7.look (t := 178) Tryd.underlying5 Tryd.underlying178 Tryd.underlying3 (zero_i64L w7) bn HUW.out
      have hvv : put (put (put (put (fun _ => 0) 65 x.a) 66 x.b) 67 x.c) 75 x.k bn = vb := HVB.out.symm
      rw [hvv] at hlk
      have q4 := Keep.grown (Keep.refl (fun j => j = mb) wm) hg4 (fun k hk => .inr (by injection hk with hk; exact hk.symm))
      have q5 := Keep.grown q4 hg5 (fun k hk => .inr (by injection hk with hk; exact hk.symm))
      have q6 := Keep.grown q5 hg6 (fun k hk => .inr (by injection hk with hk; exact hk.symm))
      have q7 := Keep.grown q6 hg7 (fun k hk => .inr (by injection hk with hk; exact hk.symm))
      have c1 : wm.cell? ⟨xb, 1, none⟩ = some (.int .i64 x.a) := cell_of HMB.out (by rfl)
      have c2 : w4.cell? ⟨xb, 2, none⟩ = some (.int .i64 x.b) := cell_of (q4.get HMB.out hmx) (by rfl)
      have c3 : w5.cell? ⟨xb, 3, none⟩ = some (.int .i64 x.c) := cell_of (q5.get HMB.out hmx) (by rfl)
      have c4 : w6.cell? ⟨xb, 4, none⟩ = some (.int .i64 x.k) := cell_of (q6.get HMB.out hmx) (by rfl)
      have HK7 := hid (keep_new HKM.out q7 (fun j e => by have := HKR.out.size; have := HMBS.out; omega))
      have HO7 := hid (owns_keep HMO.out (fun j hj => q7.block j (Nat.lt_of_lt_of_le (HOL.out j hj) HMS.out) (fun e => by have := HOL.out j hj; omega)))
      clear hm4 hm5 hm6 hm7 hg4 hg5 hg6 hg7 q4 q5 q6 q7 hvv hmx HM0 HMB HMO HMW
      generalize (L.take k).map (valB x) = us at *
      go_wp2_with (at_builtin; go_loud (refine wpList_append_rd rfl (.tmp 15) (.tmp 28) _ rfl w3.heap.size _ i0 _ 1 8 Tryd.underlying93 hi0 hz0 hz1 hz2 rfl (by decide) _ k _ (by rfl) (HO7.out.alloc _) _ 1 _ (by rfl) (rd_block (heap_alloc_new w7 _) (by simp) (by simp [Value.oneCell'])) (by unfold maxLen; omega) (by omega) (by have := HK7.out.size; simp; omega) ?_); go_loud (intro v' w8 hown6 hgrow6 hat6 hn6; obtain ⟨vq, vd, rfl⟩ := owns_val hown6; have HO8 := hid hown6; have HK8 := hid ((HK7.out.alloc _).grown hgrow6 (fun k hk => .inl (HO7.out.lt k hk).1)); clear hown6 hgrow6 hat6 hn6))
      go_wp2
      go_roundw
      case rel => exact ⟨k + 1, by omega, by go_num, by rw [HNX.out, List.map_append]; exact HO8.out, HK8.out⟩
      case measure => simp [intOf]; omega
    · obtain rfl : k = L.length := by omega
      have g0 : decide ((L.length : Int) < (N.size : Int)) = false := decide_eq_false (by have := HNS.out; omega)
      have g1 : decide (L.length < N.size) = false := decide_eq_false (by have := HNS.out; omega)
      rw [List.take_length] at HO
      have HLA : Hid (L.length = (argsL x).length) := hid (by rw [← HAV.out, List.length_map])
      go_wp2
      go_ret
      rw [HAV.out] at HO
      rw [HLA.out] at HO ⊢
      exact ⟨_, _, rfl, owns_mono HO.out HW3.out, HK3.out.trans HKR.out⟩
end Go.Proofs.YtbnhdmalkmcalaaDoor

namespace Go.Proofs.YtbnhdmalkmcalaaDoor
open Go.RowKit Go.Proofs.Heap Go.Proofs.Sch

theorem results_2c {fn : Func} {p u : Tmp} (h : fn.results = #[.tmp p, .tmp u]) (tmps : Array Value) {P : Program} {w : World} : (results fn tmps).run P w = .ok (.tuple #[tmps.getD p undef, tmps.getD u undef]) w := by
  simp [results, h]
theorem u64_nat (n : Nat) (h : n < 18446744073709551616) : IntKind.u64.wrap (n : Int) = (n : Int) := by rw [u64N_eq, u64N_nat h]

set_option maxRecDepth 20000 in
set_option maxHeartbeats 16000000 in
theorem craft_encode (s : VSys) (pa : Option Addr) (ca : Nat) (pc : Option Addr) (cc : Nat) (w : World) (h1 : s.all < 4294967296) (h2 : s.none < 4294967296) (hca : s.after.length ≤ ca) (ha : TP w w.heap.size pa s.after) (hc : VP w w.heap.size pc s.code) :
    Calls Tryd.prog 13 #[SysV s pa ca pc cc] w fun r w' => r = .returned (.tuple #[.string (encS s), .int .i64 (sysC s : Int)]) ∧ Keep (fun _ => False) w w' := by
  have HCK := hid (fun (wy : World) (hk : Keep (fun _ => False) w wy) => craft_check s pa ca pc cc wy h1 h2 hca (TP.mono (TP.low ha (Low.keep0 hk)) hk.size) (VP.mono (VP.low hc (Low.keep0 hk)) hk.size))
  have HTA := hid (fun (wy : World) (hk : Keep (fun _ => False) w wy) => TP.low ha (Low.keep0 hk))
  have HVC := hid (fun (wy : World) (hk : Keep (fun _ => False) w wy) => VP.low hc (Low.keep0 hk))
  obtain ⟨w1, hw1, hb1, hs1, hk1⟩ := box1 w (SysC s pa ca pc cc) 27
  have HK1 := hid hk1
  have HLT : Hid (w.heap.size < w1.heap.size) := hid (by omega)
  have HC : Hid (∀ wy, Low w1.heap.size w1 wy → wy.cell? ⟨w.heap.size, 0, none⟩ = some (.string s.name) ∧ wy.cell? ⟨w.heap.size, 1, none⟩ = some (.int .i64 s.stage) ∧ wy.cell? ⟨w.heap.size, 2, none⟩ = some (.slice pa s.after.length ca) ∧ wy.cell? ⟨w.heap.size, 3, none⟩ = some (.int .u32 (s.all : Int)) ∧ wy.cell? ⟨w.heap.size, 4, none⟩ = some (.int .u32 (s.none : Int)) ∧ wy.cell? ⟨w.heap.size, 5, none⟩ = some (.slice pc s.code.length cc)) := hid (fun wy hl => by
    have hlt := HLT.out
    refine ⟨(hl.cell hlt).trans (cell_of hb1 (by rfl)), (hl.cell hlt).trans (cell_of hb1 (by rfl)), (hl.cell hlt).trans (cell_of hb1 (by rfl)), (hl.cell hlt).trans (cell_of hb1 (by rfl)), (hl.cell hlt).trans (cell_of hb1 (by rfl)), (hl.cell hlt).trans (cell_of hb1 (by rfl))⟩)
  have H1 := hid h1; have H2 := hid h2; have HCA := hid hca
  clear hb1 hs1 hk1 h1 h2 hca ha hc
  go_enter Tryd.func13, Tryd.ntmps13
  go_upto_region 1 with fail
  rw [← hw1]
  clear hw1
  generalize w.heap.size = sb at *
  obtain ⟨c0, c1, c2, c3, c4, c5⟩ := HC.out _ Low.refl
  go_wp2_with fail
  refine (HCK.out _ HK1.out).mono ?_
  rintro r w2 ⟨rfl, hk2⟩
  have HK2 := hid hk2
  clear hk2 c0 c1 c2 c3 c4 c5
  by_cases hz : sysC s = 0
  rotate_left
  · have HE : Hid (encS s = ⟨#[]⟩) := hid (if_neg hz)
    obtain ⟨R, hR⟩ : ∃ R, sysC s = R := ⟨_, rfl⟩
    rw [hR] at hz ⊢
    have HR := hid hR
    have g1 : ((R : Int) != 0) = true := by rw [bne, beq_eq_false_iff_ne.2 (show (R : Int) ≠ 0 by omega)]; rfl
    have g2 : (R != 0) = true := by rw [bne, beq_eq_false_iff_ne.2 hz]; rfl
    clear hz hR
    go_wp2
    (try simp only [Exit.inBlock, Exit.then])
    refine bodyPost_ret (results_2c rfl _) rfl ?_
    exact ⟨by rw [HE.out, HR.out]; rfl, HK1.out.trans HK2.out⟩
  have HOK := hid (sys_oky hz)
  have HE : Hid (encS s = ⟨(encL s).toArray⟩) := hid (if_pos hz)
  have HZ := hid hz
  rw [hz]
  clear hz
  obtain ⟨w3, hw3, hb3, hs3, hk3⟩ := box1 w2 #[.slice none 0 0] 91
  have HW3 : Hid (WrS w3 w2.heap.size w2.heap.size (.slice none 0 0) []) := hid ⟨hb3, World.ownsRow_nil _ _ _ _, by simp [Value.ownBlock], Nat.le_refl _⟩
  have HQ : Hid (w2.heap.size < w3.heap.size) := hid (by omega)
  have HLOW : Hid (∀ wy sv l, WrN w3 wy w2.heap.size w2.heap.size (.slice none 0 0) sv l → Low w1.heap.size w1 wy) := hid (fun wy sv l h b hb => by
    have hz2 := HK2.out.size
    rw [h.keep.block b (by have := HQ.out; omega) (fun e => by
      rcases e with e | e
      · omega
      · simp [Value.ownBlock] at e)]
    rw [hk3.block b (by omega) id, HK2.out.block b hb id])
  have HKF : Hid (∀ wy sv l, WrN w3 wy w2.heap.size w2.heap.size (.slice none 0 0) sv l → Keep (fun _ => False) w wy) := hid (fun wy sv l h => keep_new (HK1.out.trans (HK2.out.trans hk3)) h.keep (fun k e => by
    have hz2 := HK2.out.size
    have := HK1.out.size
    rcases e with e | e
    · omega
    · simp [Value.ownBlock] at e))
  clear hb3 hs3 hk3
  go_upto_region 5 with fail
  rw [← hw3]
  clear hw3
  generalize w2.heap.size = q at *
  have hok := HOK.out
  have hst0 : u64N s.stage < 256 := by rw [u64N_pos hok.stage.1 (by have := hok.stage.2; omega)]; have := hok.stage; omega
  have HST := hid (u64N_eq s.stage)
  have HST0 := hid hst0
  have hnm := nameB_size hok.name
  have hn1 := nameL_len s.name
  have hwl : IntKind.u64.wrap (s.after.length : Int) = (s.after.length : Int) := u64_nat _ (by have := hok.afl; omega)
  have hwc : IntKind.u64.wrap (s.code.length : Int) = (s.code.length : Int) := u64_nat _ (by have := hok.cdl; omega)
  have hwa : IntKind.u64.wrap (s.all : Int) = (s.all : Int) := u64_nat _ (by have := H1.out; omega)
  have hwn : IntKind.u64.wrap (s.none : Int) = (s.none : Int) := u64_nat _ (by have := H2.out; omega)
  have HAL := hid hok.afl; have HCL := hid hok.cdl
  have HNM := hid hnm; have HN1 := hid hn1
  clear hok hst0 hnm hn1
  go_wp2_with fail
  refine (oct_num1 89 (by omega) q q _ [] w3 (by simp) HW3.out).mono ?_
  rintro r w4 ⟨sv4, rfl, hn⟩
  have HN := hid hn
  clear hn
  obtain ⟨c0, c1, c2, c3, c4, c5⟩ := HC.out _ (HLOW.out _ _ _ HN.out)
  go_wp2_with fail
  refine (wr_name s.name (by have := HNM.out; omega) q q sv4 _ w4 (by rw [List.length_append, leL_len]; have := HNM.out; simp; omega) HN.out.st).mono ?_
  rintro r w5 ⟨sv5, rfl, hn⟩
  have HN5 := hid (HN.out.trans hn HQ.out)
  clear hn c0 c1 c2 c3 c4 c5
  obtain ⟨c0, c1, c2, c3, c4, c5⟩ := HC.out _ (HLOW.out _ _ _ HN5.out)
  have hst := HST.out
  go_wp2_with fail
  refine (oct_num1 (u64N s.stage) HST0.out q q sv5 _ w5 (by simp only [List.length_append, leL_len, List.length_nil]; have := HNM.out; have := HN1.out; omega) HN5.out.st).mono ?_
  rintro r w6 ⟨sv6, rfl, hn⟩
  have HN6 := hid (HN5.out.trans hn HQ.out)
  clear hn c0 c1 c2 c3 c4 c5 hst
  obtain ⟨c0, c1, c2, c3, c4, c5⟩ := HC.out _ (HLOW.out _ _ _ HN6.out)
  go_wp2_with fail
  refine (oct_num1 s.after.length (by have := HAL.out; omega) q q sv6 _ w6 (by simp only [List.length_append, leL_len, List.length_nil]; have := HNM.out; have := HN1.out; omega) HN6.out.st).mono ?_
  rintro r w7 ⟨sv7, rfl, hn⟩
  have HN7 := hid (HN6.out.trans hn HQ.out)
  clear hn c0 c1 c2 c3 c4 c5
  obtain ⟨c0, c1, c2, c3, c4, c5⟩ := HC.out _ (HLOW.out _ _ _ HN7.out)
  obtain ⟨T1, hT1⟩ : ∃ T1, [] ++ leL 1 89 ++ nameL s.name ++ leL 1 (u64N s.stage) ++ leL 1 s.after.length = T1 := ⟨_, rfl⟩
  have HT1 : Hid (T1.length ≤ 100) := hid (by rw [← hT1]; simp only [List.length_append, leL_len, List.length_nil]; have := HNM.out; have := HN1.out; omega)
  have HTT := hid hT1
  rw [hT1] at HN7
  clear hT1
  go_wp2_with fail
  clear c0 c1 c2 c3 c4 c5
  go_loopw [7, 39] (fun _ i wr => ∃ (k : Nat) (sv' : Value), k ≤ s.after.length ∧ i = iV k ∧ WrN w3 wr q q (.slice none 0 0) sv' (T1 ++ (s.after.take k).flatMap nameL)) (fun _ i _ => s.after.length + 1 - (intOf i).toNat)
  case atStart => exact ⟨0, sv7, by omega, rfl, by simpa using HN7.out⟩
  case round =>
    obtain ⟨k, sv', hk, rfl, hn⟩ := hrel
    have HNR := hid hn
    clear hn
    by_cases hlt : k < s.after.length
    · obtain ⟨t, ht⟩ : ∃ t, s.after[k]? = some t := ⟨s.after[k], by simp [hlt]⟩
      have HT := hid ht
      obtain ⟨b, off, rfl, hb, d0⟩ := TP.at (HTA.out _ (HKF.out _ _ _ HNR.out)) ht
      have HTS : Hid (t.size ≤ 12) := hid (nameB_size (HOK.out.afn (List.mem_of_getElem? ht)))
      have hin : (0 : Int) ≤ (k : Int) ∧ (k : Int) < (s.after.length : Int) := ⟨by omega, by omega⟩
      have hal := HAL.out
      clear ht hb
      go_wp2_with fail
      refine (wr_name t (by have := HTS.out; omega) q q sv' _ wr (by rw [List.length_append]; have := HT1.out; have := HTS.out; have := aftL_len HOK.out k; omega) HNR.out.st).mono ?_
      rintro r wz ⟨svz, rfl, hn⟩
      have HNZ := hid (HNR.out.trans hn HQ.out)
      clear hn d0
      go_wp2
      go_roundw
      case rel => exact ⟨k + 1, svz, by omega, by go_num, by rw [flat_next nameL HT.out, ← List.append_assoc]; exact HNZ.out⟩
      case measure => simp [intOf]; omega
    · obtain rfl : k = s.after.length := by omega
      have g1 : decide ((s.after.length : Int) < (s.after.length : Int)) = false := decide_eq_false (by omega)
      have g2 : decide (s.after.length < s.after.length) = false := decide_eq_false (by omega)
      have HF1 : Hid (WrN w3 wr q q (.slice none 0 0) sv' (T1 ++ s.after.flatMap nameL)) := hid (by have h := HNR.out; rwa [List.take_length] at h)
      obtain ⟨c0, c1, c2, c3, c4, c5⟩ := HC.out _ (HLOW.out _ _ _ HF1.out)
      have HFL : Hid ((s.after.flatMap nameL).length ≤ 52) := hid (by have h := aftL_len HOK.out s.after.length; rwa [List.take_length] at h)
      go_wp2_with fail
      refine (oct_num4 s.all H1.out q q sv' _ wr (by rw [List.length_append]; have := HT1.out; have := HFL.out; omega) HF1.out.st).mono ?_
      rintro r w8 ⟨sv8, rfl, hn⟩
      have HN8 := hid (HF1.out.trans hn HQ.out)
      clear hn c0 c1 c2 c3 c4 c5 g1 g2
      obtain ⟨c0, c1, c2, c3, c4, c5⟩ := HC.out _ (HLOW.out _ _ _ HN8.out)
      go_wp2_with fail
      refine (oct_num4 s.none H2.out q q sv8 _ w8 (by simp only [List.length_append, leL_len]; have := HT1.out; have := HFL.out; omega) HN8.out.st).mono ?_
      rintro r w9 ⟨sv9, rfl, hn⟩
      have HN9 := hid (HN8.out.trans hn HQ.out)
      clear hn c0 c1 c2 c3 c4 c5
      obtain ⟨c0, c1, c2, c3, c4, c5⟩ := HC.out _ (HLOW.out _ _ _ HN9.out)
      go_wp2_with fail
      refine (oct_num1 s.code.length (by have := HCL.out; omega) q q sv9 _ w9 (by simp only [List.length_append, leL_len]; have := HT1.out; have := HFL.out; omega) HN9.out.st).mono ?_
      rintro r w10 ⟨sv10, rfl, hn⟩
      have HN10 := hid (HN9.out.trans hn HQ.out)
      clear hn c0 c1 c2 c3 c4 c5
      obtain ⟨c0, c1, c2, c3, c4, c5⟩ := HC.out _ (HLOW.out _ _ _ HN10.out)
      obtain ⟨T2, hT2⟩ : ∃ T2, T1 ++ s.after.flatMap nameL ++ leL 4 s.all ++ leL 4 s.none ++ leL 1 s.code.length = T2 := ⟨_, rfl⟩
      have HT2 : Hid (T2.length ≤ 200) := hid (by rw [← hT2]; simp only [List.length_append, leL_len]; have := HT1.out; have := HFL.out; omega)
      have HTU := hid hT2
      rw [hT2] at HN10
      clear hT2
      go_wp2_with fail
      clear c0 c1 c2 c3 c4 c5
      go_loopw [9, 11, 66] (fun _ _ i wr => ∃ (k : Nat) (sv' : Value), k ≤ s.code.length ∧ i = iV k ∧ WrN w3 wr q q (.slice none 0 0) sv' (T2 ++ (s.code.take k).flatMap opL)) (fun _ _ i _ => s.code.length + 1 - (intOf i).toNat)
      case atStart => exact ⟨0, sv10, by omega, rfl, by simpa using HN10.out⟩
      case round =>
        obtain ⟨k, svk, hk, rfl, hn⟩ := hrel
        have HNR := hid hn
        clear hn
        by_cases hlt : k < s.code.length
        · obtain ⟨x, hx⟩ : ∃ x, s.code[k]? = some x := ⟨s.code[k], by simp [hlt]⟩
          have HX := hid hx
          obtain ⟨b, off, rfl, hb, d0, d1, d2, d3, d4⟩ := VP.at (HVC.out _ (HKF.out _ _ _ HNR.out)) hx
          have hin : (0 : Int) ≤ (k : Int) ∧ (k : Int) < (s.code.length : Int) := ⟨by omega, by omega⟩
          have HOB := hid (op_bounds (HOK.out.cod x (List.mem_of_getElem? hx)))
          clear hx hb
          go_upto_region 20 with fail
          obtain ⟨wx, hwx, hbx, hsx, hkx⟩ := box1 wr (OC x) 50
          rw [← hwx]
          have HQX := hid (HNR.out.keep.size)
          have HXC : Hid (wx.heap[wr.heap.size]? = some (.cells (OC x) 50 (0, 0))) := hid hbx
          have HWX : Hid (WrN w3 wx q q (.slice none 0 0) svk (T2 ++ (s.code.take k).flatMap opL)) := hid (by
            have h := HNR.out
            have hlt : ∀ g, svk.ownBlock = some g → wx.heap[g]? = wr.heap[g]? := fun g hg => hkx.block g (h.st.own.lt g hg).2 id
            exact ⟨⟨(hkx.block q (lt_of_heap h.st.block) id).trans h.st.block, owns_keep h.st.own hlt, h.st.ne, h.st.base⟩, h.keep.trans (hkx.mono (fun _ _ e => e.elim)), h.own⟩)
          have e0 := cell_of hbx (i := 0) (by rfl)
          have e1 := cell_of hbx (i := 1) (by rfl)
          have e2 := cell_of hbx (i := 2) (by rfl)
          have e3 := cell_of hbx (i := 3) (by rfl)
          simp only [List.getElem_toArray, List.getElem_cons_succ, List.getElem_cons_zero] at e0 e1 e2 e3
          have HSX := hid hsx
          have HSVK : Hid (∀ g, svk.ownBlock = some g → g < wr.heap.size) := hid (fun g hg => (HNR.out.st.own.lt g hg).2)
          clear hbx hkx hsx hwx d0 d1 d2 d3 d4
          generalize wr.heap.size = xb at *
          go_upto_block 4 with fail
          obtain ⟨wy, hwy, hby, hsy, hky⟩ := box1 wx #[.int .i64 x.code, .int .i64 x.a, .int .i64 x.b, .int .i64 x.c] 3
          rw [← hwy]
          have HXY : Hid (wy.heap[xb]? = some (.cells (OC x) 50 (0, 0))) := hid ((hky.get HXC.out id))
          have HY : Hid (wy.heap[wx.heap.size]? = some (.cells ([x.code, x.a, x.b, x.c].map (fun n => Value.int .i64 n)).toArray 3 (0, 0))) := hid hby
          have HWY : Hid (WrN w3 wy q q (.slice none 0 0) svk (T2 ++ (s.code.take k).flatMap opL)) := hid (by
            have h := HWX.out
            have hlt : ∀ g, svk.ownBlock = some g → wy.heap[g]? = wx.heap[g]? := fun g hg => hky.block g (h.st.own.lt g hg).2 id
            exact ⟨⟨(hky.block q (lt_of_heap h.st.block) id).trans h.st.block, owns_keep h.st.own hlt, h.st.ne, h.st.base⟩, h.keep.trans (hky.mono (fun _ _ e => e.elim)), h.own⟩)
          have HQB : Hid (q < xb) := hid (by have := HQ.out; have := HQX.out; omega)
          have HXB := HSX.out
          have HSY := hid hsy
          clear hby hky hsy hwy e0 e1 e2 e3
          obtain ⟨yb, hyb⟩ : ∃ yb, wx.heap.size = yb := ⟨_, rfl⟩
          rw [hyb] at HY HSY HXB ⊢
          have HYB := hid HXB
          clear HXB hyb
          go_wp2_with fail
          go_loopw [11, 80] (fun _ i wr => ∃ (j : Nat) (sv' : Value), j ≤ 4 ∧ i = iV j ∧ WrN wy wr q q svk sv' (T2 ++ (s.code.take k).flatMap opL ++ ([x.code, x.a, x.b, x.c].take j).flatMap (fun n => leL 1 (u64N n)))) (fun _ i _ => 4 + 1 - (intOf i).toNat)
          case atStart => exact ⟨0, svk, by omega, rfl, by simpa using WrN.refl HWY.out.st⟩
          case round =>
            obtain ⟨j, svj, hj, rfl, hn⟩ := hrel
            have HNJ := hid hn
            clear hn
            have HLJ : Hid ((([x.code, x.a, x.b, x.c].take j).flatMap (fun n => leL 1 (u64N n))).length ≤ 4) := hid (by
              have key : ∀ L : List Int, (L.flatMap (fun n => leL 1 (u64N n))).length = L.length := by
                intro L
                induction L with
                | nil => rfl
                | cons a L ih => rw [List.flatMap_cons, List.length_append, leL_len, ih, List.length_cons]; omega
              rw [key, List.length_take]; simp; omega)
            have hyw : wr.heap[yb]? = some (.cells ([x.code, x.a, x.b, x.c].map (fun n => Value.int .i64 n)).toArray 3 (0, 0)) := HNJ.out.keep.get HY.out (fun e => by
              have := HYB.out; have := HQB.out
              rcases e with e | e
              · omega
              · have := HSVK.out _ e; omega)
            by_cases hlj : j < 4
            · obtain ⟨n, hnj⟩ : ∃ n, [x.code, x.a, x.b, x.c][j]? = some n := ⟨[x.code, x.a, x.b, x.c][j], by simp [hlj]⟩
              have y0 : wr.cell? ⟨yb, j, none⟩ = some (.int .i64 n) := cell_of hyw (by rw [List.getElem?_toArray, List.getElem?_map, hnj]; rfl)
              have HNX := hid hnj
              have HU := u64N_eq n
              have hmem := List.mem_of_getElem? hnj
              have hb := HOB.out
              have HLT : Hid (u64N n < 256) := hid (by
                have h0 : 0 ≤ n ∧ n ≤ 24 := by
                  simp only [List.mem_cons, List.not_mem_nil, or_false] at hmem
                  rcases hmem with rfl | rfl | rfl | rfl <;> omega
                rw [u64N_pos h0.1 (by omega)]; omega)
              have hinj : (0 : Int) ≤ (j : Int) ∧ (j : Int) < 4 := ⟨by omega, by omega⟩
              clear hyw hnj hmem hb
              go_wp2_with fail
              refine (oct_num1 (u64N n) HLT.out q q svj _ wr (by simp only [List.length_append]; have := HT2.out; have := HLJ.out; have := codL_len HOK.out k; omega) HNJ.out.st).mono ?_
              rintro r wz ⟨svz, rfl, hn⟩
              have HNZ := hid (HNJ.out.trans hn (by have := HQB.out; have := HYB.out; have := HSY.out; omega))
              clear hn y0 HU
              go_wp2
              go_roundw
              case rel => exact ⟨j + 1, svz, by omega, by go_num, by rw [flat_next (fun n => leL 1 (u64N n)) HNX.out, ← List.append_assoc]; exact HNZ.out⟩
              case measure => simp [intOf]; omega
            · obtain rfl : j = 4 := by omega
              have hxw : wr.heap[xb]? = some (.cells (OC x) 50 (0, 0)) := HNJ.out.keep.get HXY.out (fun e => by
                have := HQB.out
                rcases e with e | e
                · omega
                · have := HSVK.out _ e; omega)
              have x4 : wr.cell? ⟨xb, 4, none⟩ = some (.int .i64 x.k) := cell_of hxw (by rfl)
              have HU := u64N_eq x.k
              clear hyw hxw
              go_wp2_with fail
              refine (oct_num8 (u64N x.k) (u64N_lt _) q q svj _ wr (by simp only [List.length_append]; have := HT2.out; have := HLJ.out; have := codL_len HOK.out k; omega) HNJ.out.st).mono ?_
              rintro r wz ⟨svz, rfl, hn⟩
              have HNZ := hid (HWY.out.trans (HNJ.out.trans hn (by have := HQB.out; have := HYB.out; have := HSY.out; omega)) HQ.out)
              have hcl := HCL.out
              clear hn x4 HU
              go_wp2
              go_roundw
              case rel =>
                refine ⟨k + 1, svz, by omega, by go_num, ?_⟩
                have h := HNZ.out
                rw [flat_next opL HX.out, ← List.append_assoc]
                simpa [opL, List.append_assoc] using h
              case measure => simp [intOf]; omega
        · obtain rfl : k = s.code.length := by omega
          have g1 : decide ((s.code.length : Int) < (s.code.length : Int)) = false := decide_eq_false (by omega)
          have g2 : decide (s.code.length < s.code.length) = false := decide_eq_false (by omega)
          have HF2 : Hid (WrN w3 wr q q (.slice none 0 0) svk (T2 ++ s.code.flatMap opL)) := hid (by have h := HNR.out; rwa [List.take_length] at h)
          go_wp2_with fail
          refine (wr_string q q svk _ wr HF2.out.st).mono ?_
          rintro r w_ ⟨rfl, rfl⟩
          have HEQ : Hid (T2 ++ s.code.flatMap opL = encL s) := hid (by rw [← HTU.out, ← HTT.out]; unfold encL; simp only [List.nil_append])
          rw [HEQ.out]
          have HK := hid (HKF.out _ _ _ HF2.out)
          clear g1 g2
          go_wp2
          (try simp only [Exit.inBlock, Exit.then])
          refine bodyPost_ret (results_2c rfl _) rfl ?_
          exact ⟨by rw [HE.out, HZ.out]; rfl, HK.out⟩
end Go.Proofs.YtbnhdmalkmcalaaDoor

namespace Go.Proofs.Plan
section
variable {P : Program} {ops : Array Oper}

theorem wpQuiet_load {Q : Act → Prop} {rest : List Oper} {a : Act} {o : Oper} {w : World} (hgd : o.guard = none) (ty : TypeId) (x : Operand) (ho : o.op = .load ty x) (ad : Addr) (hx : a.eval x = .pointer (some ad)) (v : Value)
    (hl : (loadVar ty ad).run P w = .ok v w) (h : wpQuiet P ops (fun w' => w' = w) Q rest (a.put o.dst v)) : wpQuiet P ops (fun w' => w' = w) Q (o :: rest) a := by
  refine BigFrame.wpQuiet_want (by simp [Region.wanted, hgd]) fun K hK => ⟨v, fun w' hw' => ?_, hK _ h⟩
  subst hw'
  unfold Oper.quietAt execOp
  simp [ho, hx, Instr.loadAt, Instr.sureAddr, hl]
  exact ⟨rfl, rfl⟩
end
end Go.Proofs.Plan
