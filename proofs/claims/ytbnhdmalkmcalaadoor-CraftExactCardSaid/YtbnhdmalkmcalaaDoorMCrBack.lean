/- What is proved: the walk of CraftBack: what was encoded is decoded as it was. -/
import Derived.Test.YtbnhdmalkmcalaaDoorMCrEq
import Derived.Test.YtbnhdmalkmcalaaDoorMHeap
import Derived.Deep.Grids
import Derived.Test.YtbnhdmalkmcalaaDoorMCrDec
namespace Go.Proofs.Plan
section
variable {P : Program} {ops : Array Oper}
theorem wpQuiet_load_g {Q : Act → Prop} {rest : List Oper} {a : Act} {o : Oper} {w : World} (hgd : Region.wanted o (yielded ops a.tmps) = true) (ty : TypeId) (x : Operand) (ho : o.op = .load ty x) (ad : Addr) (hx : a.eval x = .pointer (some ad)) (v : Value)
  (hl : (loadVar ty ad).run P w = .ok v w) (h : wpQuiet P ops (fun w' => w' = w) Q rest (a.put o.dst v)) : wpQuiet P ops (fun w' => w' = w) Q (o :: rest) a := by
  refine BigFrame.wpQuiet_want hgd fun K hK => ⟨v, fun w' hw' => ?_, hK _ h⟩
  subst hw'
  unfold Oper.quietAt execOp
  simp [ho, hx, Instr.loadAt, Instr.sureAddr, hl]
  exact ⟨rfl, rfl⟩
end
end Go.Proofs.Plan
namespace Go.Proofs.YtbnhdmalkmcalaaDoor
open Go.RowKit Go.Proofs.Heap Go.Proofs.Sch

/-- A system handed in. -/
structure SysIn (w : World) (s : VSys) (pa : Option Addr) (ca : Nat) (pc : Option Addr) : Prop where
  all : s.all < 4294967296
  none : s.none < 4294967296
  cap : s.after.length ≤ ca
  aft : TP w w.heap.size pa s.after
  code : VP w w.heap.size pc s.code
  k : ∀ x ∈ s.code, IB x.k
theorem SysIn.keep {w w' : World} {s : VSys} {pa : Option Addr} {ca : Nat} {pc : Option Addr} (h : SysIn w s pa ca pc) (hk : Keep (fun _ => False) w w') : SysIn w' s pa ca pc :=
  ⟨h.all, h.none, h.cap, TP.mono (TP.low h.aft (Low.keep0 hk)) hk.size, VP.mono (VP.low h.code (Low.keep0 hk)) hk.size, h.k⟩
theorem SysIn.mem {w : World} {s : VSys} {pa : Option Addr} {ca : Nat} {pc : Option Addr} (h : SysIn w s pa ca pc) (hok : OkY s) : MemY s := ⟨hok, h.all, h.none, fun x hx => by have := h.k x hx; unfold IB at this; omega⟩
theorem one_byte (w : World) (m : UInt8) : (convert 55 9 (.slice (some ⟨w.heap.size, 0, none⟩) 1 1)).run Tryd.prog (w.alloc (.cells #[.int .u8 (m.toNat : Int)] 5)) = .ok (.string ⟨#[m]⟩) (w.alloc (.cells #[.int .u8 (m.toNat : Int)] 5)) := by
  refine run_bytes_string _ _ _ 5 Tryd.underlying55 Tryd.underlying5 Tryd.underlying9 _ 0 1 1 [m] rfl (fun i x hx => ?_)
  match i, hx with
  | 0, hx =>
    injection hx with hx
    subst hx
    exact cell_of (heap_alloc_new w _) rfl
  | _ + 1, hx => simp at hx
theorem encS_size (s : VSys) : (encS s).size ≤ 9223372036854775807 - 1 := by
  unfold encS
  split
  next h =>
    have hok := sys_oky h
    have h1 := aftL_len hok s.after.length
    have h2 := codL_len hok s.code.length
    rw [List.take_length] at h1 h2
    have h3 := nameL_len s.name
    have h4 := nameB_size hok.name
    show (encL s).toArray.size ≤ _
    rw [List.size_toArray]
    unfold encL
    simp only [List.length_append, leL_len]
    omega
  · decide
/-- A system's bytes and a byte more, or less. -/
theorem back_more {s : VSys} (h : MemY s) (m : UInt8) : decE (encS s ++ ⟨#[m]⟩) = 4 := by
  have e : encS s ++ ⟨#[m]⟩ = bsB (encL s ++ [m]) := by unfold encS; rw [if_pos (oky_sys h.ok)]; exact ba_inj (by rw [ByteArray.data_append, Array.toList_append]; rfl)
  rw [e]
  unfold decE; rw [good_more h m]; rfl
theorem back_less {s : VSys} (h : MemY s) : decE ((encS s).extract 0 ((encS s).size - 1)) = 4 := by
  have e0 : encS s = bsB (encL s) := if_pos (oky_sys h.ok)
  have hp := encL_pos s
  have e : (encS s).extract 0 ((encS s).size - 1) = bsB ((encL s).take ((encL s).length - 1)) := by
    rw [e0, bs_ext, bs_size, List.drop_zero, Nat.sub_zero]
  rw [e]
  unfold decE
  have hd : (encL s).drop ((encL s).length - 1) = [(encL s)[(encL s).length - 1]] := by
    rw [List.drop_eq_getElem_cons (by omega), List.drop_of_length_le (by omega)]
  rw [good_less h (b := (encL s)[(encL s).length - 1]) (by rw [bs_list, ← hd, List.take_append_drop])]
  rfl
theorem back_same {s : VSys} (h : MemY s) : decE (encS s) = 0 ∧ decY (encS s) = s := by
  have e0 : encS s = bsB (encL s) := if_pos (oky_sys h.ok)
  rw [e0]
  refine ⟨?_, dec_enc h⟩
  unfold decE; rw [if_pos (good_enc h)]
theorem back_two {a b : VSys} (ha : MemY a) (hb : MemY b) : ((encS a).toList == (encS b).toList) = eqY a b := by
  apply Bool.eq_iff_iff.2
  rw [eqY_iff, beq_iff_eq]
  constructor
  · intro h
    refine enc_inj ha hb ?_
    have e1 : encS a = bsB (encL a) := if_pos (oky_sys ha.ok)
    have e2 : encS b = bsB (encL b) := if_pos (oky_sys hb.ok)
    rw [e1, e2, tl_eq, tl_eq] at h
    exact h
  · rintro rfl; rfl
theorem lines_two {a b : VSys} (ha : MemY a) (hb : MemY b) : decide (linesY a = linesY b) = eqY a b := by
  apply Bool.eq_iff_iff.2
  rw [eqY_iff, decide_eq_true_iff]
  exact ⟨lines_inj ha hb, fun h => by rw [h]⟩
/-- What bytes are decoded as is encoded as the same bytes. -/
theorem back_bytesY {s : ByteArray} (h : goodY s = true) : encS (decY s) = s ∧ sysC (decY s) = 0 := by
  obtain ⟨h1, h2⟩ := good_enc_of h
  have h3 : sysC (decY s) = 0 := by rw [h1]; exact oky_sys (good_parts h)
  refine ⟨?_, h3⟩
  unfold encS
  rw [if_pos h3]
  exact h2.symm
theorem lines_len {a : VSys} (h : sysC a = 0) : (linesY a).length = a.code.length + 2 := by
  unfold linesY; rw [if_pos h]; simp

set_option maxRecDepth 20000 in
set_option maxHeartbeats 32000000 in
theorem craft_back (a b : VSys) (pa : Option Addr) (ca : Nat) (pc : Option Addr) (cc : Nat) (pa2 : Option Addr) (ca2 : Nat) (pc2 : Option Addr) (cc2 : Nat) (bytes : ByteArray) (m : UInt8) (w : World) (hA : SysIn w a pa ca pc) (hB : SysIn w b pa2 ca2 pc2) (hbs : bytes.size ≤ 9223372036854775807)
    (htab : Lib.TabIs Tryd.prog w "internal/strconv.uint64pow10" .u64 Lib.pow10Tab) :
    Calls Tryd.prog 5 #[SysV a pa ca pc cc, SysV b pa2 ca2 pc2 cc2, .string bytes, .int .u8 (m.toNat : Int)] w fun r w' => r = .returned (.bool true) ∧ Keep (fun _ => False) w w' := by
  have HIT := hid (fun n h0 h1 => it_all n h0 h1 w htab)
  have HTAB := hid (fun wy hk => craft_awake wy (tab_keep htab hk))
  obtain ⟨w1, hw1, hb1, hb2, hs1, hk1⟩ := box2 w (SysC a pa ca pc cc) (SysC b pa2 ca2 pc2 cc2) 27 27
  have HK1 := hid hk1; have HA1 := hid hb1; have HB1 := hid hb2
  have HIA := hid (fun wy (hk : Keep (fun _ => False) w wy) => hA.keep hk)
  have HIB := hid (fun wy (hk : Keep (fun _ => False) w wy) => hB.keep hk)
  have HDC := hid (fun wy => craft_decode bytes wy hbs)
  have HLA := hid (fun wy (hk : Keep (fun _ => False) w wy) => craft_lines a pa ca pc cc wy hA.all hA.none hA.cap (hA.keep hk).aft (hA.keep hk).code (fun x hx => ⟨hA.k x hx, (it_all x.k (hA.k x hx).1 (hA.k x hx).2 w htab).keep hk⟩))
  have HLB := hid (fun wy (hk : Keep (fun _ => False) w wy) => craft_lines b pa2 ca2 pc2 cc2 wy hB.all hB.none hB.cap (hB.keep hk).aft (hB.keep hk).code (fun x hx => ⟨hB.k x hx, (it_all x.k (hB.k x hx).1 (hB.k x hx).2 w htab).keep hk⟩))
  clear hb1 hb2 hs1 hk1 htab hA hB
  have HAO := hid (Nat.le_refl w.heap.size)
  go_enter Tryd.func5, Tryd.ntmps5
  go_upto_region 1 with fail
  rw [← hw1]
  clear hw1
  generalize w.heap.size + 1 = bB at *
  generalize w.heap.size = aB at *
  go_wp2_with fail
  refine (HTAB.out w1 HK1.out).mono ?_
  rintro r w2 ⟨rfl, hk⟩
  have HA2 := hid (hk.get HA1.out id); have HB2 := hid (hk.get HB1.out id); have HK2 := hid (HK1.out.trans hk)
  clear hk HTAB
  have a0 := cell_of HA2.out (i := 0) (by rfl)
  have a1 := cell_of HA2.out (i := 1) (by rfl)
  have a2 := cell_of HA2.out (i := 2) (by rfl)
  have a3 := cell_of HA2.out (i := 3) (by rfl)
  have a4 := cell_of HA2.out (i := 4) (by rfl)
  have a5 := cell_of HA2.out (i := 5) (by rfl)
  go_wp2_with fail
  refine (cr_great a pa ca pc cc w2 (HIA.out w2 HK2.out).aft).mono ?_
  rintro r w3 ⟨rfl, hk⟩
  have HA3 := hid (hk.get HA2.out id); have HB3 := hid (hk.get HB2.out id); have HK3 := hid (HK2.out.trans hk)
  clear hk
  clear a0 a1 a2 a3 a4 a5
  have b0 := cell_of HB3.out (i := 0) (by rfl)
  have b1 := cell_of HB3.out (i := 1) (by rfl)
  have b2 := cell_of HB3.out (i := 2) (by rfl)
  have b3 := cell_of HB3.out (i := 3) (by rfl)
  have b4 := cell_of HB3.out (i := 4) (by rfl)
  have b5 := cell_of HB3.out (i := 5) (by rfl)
  cases ga : greatY a
  rotate_left
  · go_wp2
    go_ret
    exact ⟨rfl, HK3.out⟩
  obtain ⟨_, hal, hcl, _⟩ := greatY_no ga
  have HAL := hid hal; have HCL := hid hcl
  clear ga hal hcl
  go_wp2_with fail
  refine (cr_great b pa2 ca2 pc2 cc2 w3 (HIB.out w3 HK3.out).aft).mono ?_
  rintro r w4 ⟨rfl, hk⟩
  have HA4 := hid (hk.get HA3.out id); have HB4 := hid (hk.get HB3.out id); have HK4 := hid (HK3.out.trans hk)
  clear hk
  clear b0 b1 b2 b3 b4 b5
  cases gb : greatY b
  rotate_left
  · go_wp2
    go_ret
    exact ⟨rfl, HK4.out⟩
  obtain ⟨_, hbl, hbc, _⟩ := greatY_no gb
  have HBL := hid hbl; have HBC := hid hbc
  clear gb hbl hbc
  by_cases hl : 2048 < bytes.size
  · have g1 : decide ((2048 : Int) < (bytes.size : Int)) = true := decide_eq_true (by omega)
    have g2 : decide (2048 < bytes.size) = true := decide_eq_true hl
    go_wp2
    go_ret
    exact ⟨rfl, HK4.out⟩
  have g1 : decide ((2048 : Int) < (bytes.size : Int)) = false := decide_eq_false (by omega)
  have g2 : decide (2048 < bytes.size) = false := decide_eq_false hl
  clear hl
  go_wp2_with fail
  clear g1 g2
  obtain ⟨E, hE⟩ : ∃ E, decE bytes = E := ⟨_, rfl⟩
  have HE : Hid ((E = 0 ∧ goodY bytes = true) ∨ (E = 4 ∧ goodY bytes = false)) := hid (by
    rw [← hE]; unfold decE
    cases goodY bytes
    · exact .inr ⟨rfl, rfl⟩
    · exact .inl ⟨rfl, rfl⟩)
  refine (HDC.out w4).mono ?_
  rintro r w5 ⟨pa5, ca5, pc5, cc5, rfl, hca5, hta5, hvc5, hk⟩
  rw [hE]
  clear hE
  have HCA5 := hid hca5; have HTA5 := hid hta5; have HVC5 := hid hvc5
  have HA5 := hid (hk.get HA4.out id); have HB5 := hid (hk.get HB4.out id); have HK5 := hid (HK4.out.trans hk)
  clear hca5 hta5 hvc5 hk HDC
  obtain ⟨w6, hw6, hb6, hs6, hk6⟩ := box1 w5 (SysC (decY bytes) pa5 ca5 pc5 cc5) 27
  have HX6 := hid hb6
  have HA6 := hid (hk6.get HA5.out id); have HB6 := hid (hk6.get HB5.out id); have HK6 := hid (HK5.out.trans hk6)
  have HTA6 := hid (TP.mono (TP.low HTA5.out (Low.keep0 hk6)) hk6.size); have HVC6 := hid (VP.mono (VP.low HVC5.out (Low.keep0 hk6)) hk6.size)
  clear hb6 hs6 hk6 HTA5 HVC5
  go_upto_region 6 with fail
  rw [← hw6]
  clear hw6
  generalize w5.heap.size = xB at *
  go_upto_if 42 with fail
  go_cut [11, 12] from 42 to 54 (fun _ _ wx => Keep (fun _ => False) w6 wx)
  case first =>
    rcases HE.out with ⟨rfl, hg⟩ | ⟨rfl, hg⟩
    · have hM : MemY (decY bytes) := by rw [(good_enc_of hg).1]; exact mem_parts hg
      obtain ⟨hee, hsc⟩ := back_bytesY hg
      have hse : (!bytes.toList == bytes.toList) = false := by simp
      have HCE := hid (craft_encode (decY bytes) pa5 ca5 pc5 cc5 w6 hM.all hM.none HCA5.out HTA6.out HVC6.out)
      rw [hee, hsc] at HCE
      clear hg hM hee hsc
      have x0 := cell_of HX6.out (i := 0) (by rfl)
      have x1 := cell_of HX6.out (i := 1) (by rfl)
      have x2 := cell_of HX6.out (i := 2) (by rfl)
      have x3 := cell_of HX6.out (i := 3) (by rfl)
      have x4 := cell_of HX6.out (i := 4) (by rfl)
      have x5 := cell_of HX6.out (i := 5) (by rfl)
      go_wp2_with fail
      refine HCE.out.mono ?_
      rintro r w7 ⟨rfl, hk⟩
      have HKX := hid hk
      clear hk
      clear x0 x1 x2 x3 x4 x5
      go_wp2
      go_meet
      case rel => exact HKX.out
    · go_wp2
      go_meet
      case rel => exact Keep.refl _ _
  case rest =>
  have HKC := hid hcut
  clear hcut
  have HA7 := hid (HKC.out.get HA6.out id); have HB7 := hid (HKC.out.get HB6.out id); have HK7 := hid (HK6.out.trans HKC.out)
  clear HKC HX6 HTA6 HVC6 HCA5 HE
  generalize wc = w7 at *
  have a0 := cell_of HA7.out (i := 0) (by rfl)
  have a1 := cell_of HA7.out (i := 1) (by rfl)
  have a2 := cell_of HA7.out (i := 2) (by rfl)
  have a3 := cell_of HA7.out (i := 3) (by rfl)
  have a4 := cell_of HA7.out (i := 4) (by rfl)
  have a5 := cell_of HA7.out (i := 5) (by rfl)
  have HCE := hid (craft_encode a pa ca pc cc w7 (HIA.out w7 HK7.out).all (HIA.out w7 HK7.out).none (HIA.out w7 HK7.out).cap (HIA.out w7 HK7.out).aft (HIA.out w7 HK7.out).code)
  go_wp2_with fail
  refine HCE.out.mono ?_
  rintro r w8 ⟨rfl, hk⟩
  have HA8 := hid (hk.get HA7.out id); have HB8 := hid (hk.get HB7.out id); have HK8 := hid (HK7.out.trans hk)
  clear hk HCE
  clear a0 a1 a2 a3 a4 a5
  have b0 := cell_of HB8.out (i := 0) (by rfl)
  have b1 := cell_of HB8.out (i := 1) (by rfl)
  have b2 := cell_of HB8.out (i := 2) (by rfl)
  have b3 := cell_of HB8.out (i := 3) (by rfl)
  have b4 := cell_of HB8.out (i := 4) (by rfl)
  have b5 := cell_of HB8.out (i := 5) (by rfl)
  have HCE := hid (craft_encode b pa2 ca2 pc2 cc2 w8 (HIB.out w8 HK8.out).all (HIB.out w8 HK8.out).none (HIB.out w8 HK8.out).cap (HIB.out w8 HK8.out).aft (HIB.out w8 HK8.out).code)
  go_wp2_with fail
  refine HCE.out.mono ?_
  rintro r w9 ⟨rfl, hk⟩
  have HA9 := hid (hk.get HA8.out id); have HB9 := hid (hk.get HB8.out id); have HK9 := hid (HK8.out.trans hk)
  clear hk HCE
  clear b0 b1 b2 b3 b4 b5
  by_cases hz : sysC a = 0
  rotate_left
  · have he : encS a = ⟨#[]⟩ := if_neg hz
    have hln : linesY a = [] := if_neg hz
    have HL := hid (HLA.out w9 HK9.out)
    rw [hln] at HL
    rw [he]
    obtain ⟨C, hC⟩ : ∃ C, sysC a = C := ⟨_, rfl⟩
    rw [hC] at hz ⊢
    have g1 : ((C : Int) != 0) = true := by rw [bne_iff_ne]; omega
    have g2 : (C != 0) = true := by rw [bne_iff_ne]; exact hz
    clear he hln hC hz
    have a0 := cell_of HA9.out (i := 0) (by rfl)
    have a1 := cell_of HA9.out (i := 1) (by rfl)
    have a2 := cell_of HA9.out (i := 2) (by rfl)
    have a3 := cell_of HA9.out (i := 3) (by rfl)
    have a4 := cell_of HA9.out (i := 4) (by rfl)
    have a5 := cell_of HA9.out (i := 5) (by rfl)
    go_wp2_with fail
    refine HL.out.mono ?_
    rintro r w10 ⟨la, lc, rfl, lo, hk⟩
    have HK10 := hid (HK9.out.trans hk)
    clear lo hk
    go_wp2
    go_ret
    exact ⟨rfl, HK10.out⟩
  have HM := hid ((HIA.out w (Keep.refl _ w)).mem (sys_oky hz))
  have HLL := hid (lines_len hz)
  rw [hz]
  clear hz
  have HDA := hid (craft_decode (encS a) w9 (by have := encS_size a; omega))
  have HS1 := hid (back_same HM.out)
  have HS2 := hid (back_more HM.out m)
  have HS3 := hid (back_less HM.out)
  have HS4 := hid (encS_size a)
  have HS5 : Hid (1 ≤ (encS a).size) := hid (by
    have e0 : encS a = bsB (encL a) := if_pos (oky_sys HM.out.ok)
    rw [e0, bs_size]; exact encL_pos a)
  have HTW : Hid (∀ (hb : MemY b), ((encS a).toList == (encS b).toList) = eqY a b) := hid (fun hb => back_two HM.out hb)
  generalize encS a = eb at *
  obtain ⟨n, hn⟩ : ∃ n, eb.size = n + 1 := ⟨eb.size - 1, by have := HS5.out; omega⟩
  have HN := hid hn
  rw [show eb.size - 1 = n by omega] at HS3
  clear hn
  go_wp2_with fail
  refine HDA.out.mono ?_
  rintro r w10 ⟨pa6, ca6, pc6, cc6, rfl, hca6, hta6, hvc6, hk⟩
  rw [HS1.out.2] at hca6 hta6 hvc6
  rw [HS1.out.2, HS1.out.1]
  have HA10 := hid (hk.get HA9.out id); have HB10 := hid (hk.get HB9.out id); have HK10 := hid (HK9.out.trans hk)
  obtain ⟨w11, hw11, hb11, hs11, hk11⟩ := box1 w10 (SysC a pa6 ca6 pc6 cc6) 27
  have HX11 := hid hb11
  have HA11 := hid (hk11.get HA10.out id); have HB11 := hid (hk11.get HB10.out id); have HK11 := hid (HK10.out.trans hk11)
  have HTA := hid (TP.mono (TP.low hta6 (Low.keep0 hk11)) hk11.size); have HVC := hid (VP.mono (VP.low hvc6 (Low.keep0 hk11)) hk11.size)
  clear hb11 hs11 hk11 hca6 hta6 hvc6 hk HDA
  go_upto_region 15 with fail
  rw [← hw11]
  clear hw11
  generalize w10.heap.size = yB at *
  have hcv := one_byte w11 m
  obtain ⟨w12, hw12, hb12, hs12, hk12⟩ := box1 w11 #[.int .u8 (m.toNat : Int)] 5
  have HX12 := hid (hk12.get HX11.out id); have HA12 := hid (hk12.get HA11.out id); have HB12 := hid (hk12.get HB11.out id); have HK12 := hid (HK11.out.trans hk12)
  have HF := hid hk12
  clear hb12 hs12 hk12
  have hz1 : ¬ (9223372036854775807 < eb.size + 1) := by have := HS4.out; omega
  have HDM := hid (fun wy => craft_decode (eb ++ ⟨#[m]⟩) wy (by rw [ByteArray.size_append]; have := HS4.out; have h : (⟨#[m]⟩ : ByteArray).size = 1 := rfl; omega))
  generalize hbx : eb ++ ⟨#[m]⟩ = bx at *
  go_wp2_with fail
  rw [← hw12]
  clear hw12 hcv hz1 hbx
  refine (HDM.out w12).mono ?_
  rintro r w13 ⟨pa7, ca7, pc7, cc7, rfl, _, _, _, hk⟩
  rw [HS2.out]
  have HX13 := hid (hk.get HX12.out id); have HA13 := hid (hk.get HA12.out id); have HB13 := hid (hk.get HB12.out id); have HK13 := hid (HK12.out.trans hk); have HF13 := hid (HF.out.trans hk)
  clear hk HDM
  generalize decY bx = yb at *
  obtain ⟨w14, hw14, hb14, hs14, hk14⟩ := box1 w13 (SysC yb pa7 ca7 pc7 cc7) 27
  have HX14 := hid (hk14.get HX13.out id); have HA14 := hid (hk14.get HA13.out id); have HB14 := hid (hk14.get HB13.out id); have HK14 := hid (HK13.out.trans hk14); have HF14 := hid (HF13.out.trans hk14)
  clear hb14 hs14 hk14
  go_upto_region 16 with fail
  rw [← hw14]
  clear hw14
  generalize w13.heap.size = zB at *
  have HDL := hid (fun wy => craft_decode (eb.extract 0 n) wy (by rw [ByteArray.size_extract]; have := HS4.out; omega))
  have hn := HN.out
  have hnb : n ≤ 9223372036854775806 := by have := HS4.out; omega
  have hwn : wrap64 (n : Int) = (n : Int) := by unfold wrap64; omega
  have hin : (0 : Int) ≤ (n : Int) ∧ (n : Int) ≤ (n : Int) + 1 := ⟨by omega, by omega⟩
  go_wp2_with fail
  refine (HDL.out w14).mono ?_
  rintro r w15 ⟨pa8, ca8, pc8, cc8, rfl, _, _, _, hk⟩
  rw [HS3.out]
  have HX15 := hid (hk.get HX14.out id); have HA15 := hid (hk.get HA14.out id); have HB15 := hid (hk.get HB14.out id); have HK15 := hid (HK14.out.trans hk); have HF15 := hid (HF14.out.trans hk)
  clear hk HDL hn hnb hwn hin
  generalize decY (eb.extract 0 n) = yc at *
  generalize eb.extract 0 n = ec at *
  obtain ⟨w16, hw16, hb16, hs16, hk16⟩ := box1 w15 (SysC yc pa8 ca8 pc8 cc8) 27
  have HX16 := hid (hk16.get HX15.out id); have HA16 := hid (hk16.get HA15.out id); have HB16 := hid (hk16.get HB15.out id); have HK16 := hid (HK15.out.trans hk16); have HF16 := hid (HF15.out.trans hk16)
  clear hb16 hs16 hk16
  go_upto_region 17 with fail
  rw [← hw16]
  clear hw16
  generalize w15.heap.size = uB at *
  have HXD : Hid (w16.drew.heap[yB]? = some (.cells (SysC a pa6 ca6 pc6 cc6) 27 (0, 0))) := HX16
  have HAD : Hid (w16.drew.heap[aB]? = some (.cells (SysC a pa ca pc cc) 27 (0, 0))) := HA16
  have HBD : Hid (w16.drew.heap[bB]? = some (.cells (SysC b pa2 ca2 pc2 cc2) 27 (0, 0))) := HB16
  have HKD := hid HK16.out.drew
  have HFD := hid HF16.out.drew
  refine Plan.wp_region_pl [(false, 0, []), (false, 1, []), (false, 2, []), (false, 3, []), (false, 4, []), (true, 5, []), (false, 6, []), (false, 7, []), (false, 8, []), (false, 9, []), (false, 10, []), (false, 11, []), (false, 12, []), (false, 13, []), (false, 14, []), (false, 15, []), (false, 16, []), (false, 17, []), (false, 20, []), (false, 21, []), (false, 22, []), (false, 23, []), (true, 18, [23, 22, 21, 20]), (false, 19, []), (false, 24, []), (false, 25, [])] (by as_aux_lemma => kernel_rfl) (by as_aux_lemma => kernel_rfl) ?_
  generalize w16.drew = wd at *
  have HEQ := hid (craft_equal a a pa6 ca6 pc6 cc6 pa ca pc cc wd (by have := HAL.out; omega) (by have := HCL.out; omega) (TP.mono (TP.low HTA.out (Low.keep0 HFD.out)) HFD.out.size) (VP.mono (VP.low HVC.out (Low.keep0 HFD.out)) HFD.out.size) (HIA.out wd HKD.out).aft (HIA.out wd HKD.out).code)
  rw [(eqY_iff a a).2 rfl] at HEQ
  iterate 3 (refine Plan.pl_st rfl ?_; go_big_quiet_step (fail); refine wpQuiet_nil ?_)
  refine Plan.pl_st rfl ?_
  refine Plan.wpQuiet_load_g rfl 27 _ rfl _ rfl _ (load_sys HXD.out) ?_
  simp only [Act.put, List.setIfInBounds_toArray, List.set_cons_succ, List.set_cons_zero]
  refine wpQuiet_nil ?_
  refine Plan.pl_st rfl ?_
  refine Plan.wpQuiet_load_g rfl 27 _ rfl _ rfl _ (load_sys HAD.out) ?_
  simp only [Act.put, List.setIfInBounds_toArray, List.set_cons_succ, List.set_cons_zero]
  refine wpQuiet_nil ?_
  refine Plan.pl_ac rfl ?_
  go_wp2_with fail
  refine HEQ.out.mono ?_
  rintro r w17 ⟨rfl, hk⟩
  have HA17 := hid (hk.get HAD.out id); have HB17 := hid (hk.get HBD.out id); have HK17 := hid (HKD.out.trans hk)
  clear hk HEQ
  have a5 := cell_of HA17.out (i := 5) (by rfl)
  go_wp2
  refine Plan.plQ_mk Plan.chk_end ?_
  iterate 11 (refine Plan.pl_st rfl ?_; go_big_quiet_step (fail); refine wpQuiet_nil ?_)
  refine Plan.pl_st rfl ?_
  refine Plan.wpQuiet_load_g rfl 27 _ rfl _ rfl _ (load_sys HA17.out) ?_
  simp only [Act.put, List.setIfInBounds_toArray, List.set_cons_succ, List.set_cons_zero]
  refine wpQuiet_nil ?_
  have hcl := HCL.out
  have hwl : wrap64 ((a.code.length : Int) + 2) = (a.code.length : Int) + 2 := by unfold wrap64; omega
  iterate 4 (refine Plan.pl_st rfl ?_; go_big_quiet_step (fail); refine wpQuiet_nil ?_)
  refine Plan.pl_ac rfl ?_
  go_wp2_with fail
  refine (HLA.out w17 HK17.out).mono ?_
  rintro r w18 ⟨la, lc, rfl, lo, hk⟩
  rw [HLL.out]
  have HA18 := hid (hk.get HA17.out id); have HB18 := hid (hk.get HB17.out id); have HK18 := hid (HK17.out.trans hk)
  clear lo hk a5
  have a5 := cell_of HA18.out (i := 5) (by rfl)
  go_wp2
  refine Plan.plQ_mk ?_ ?_
  · iterate 4 (refine Plan.chk_st rfl ?_ ?_; focus (go_big_quiet_step (fail); exact wpQuiet_nil rfl))
    exact Plan.chk_end
  have g1 : ((a.code.length : Int) + 2 != (a.code.length : Int) + 2) = false := by simp
  iterate 3 (refine Plan.pl_st rfl ?_; go_big_quiet_step (fail); refine wpQuiet_nil ?_)
  refine Plan.pl_end ?_
  clear a5 g1 hwl hcl
  have HXD : Hid (w18.drew.heap[aB]? = some (.cells (SysC a pa ca pc cc) 27 (0, 0))) := HA18
  have HYD : Hid (w18.drew.heap[bB]? = some (.cells (SysC b pa2 ca2 pc2 cc2) 27 (0, 0))) := HB18
  have HZD := hid HK18.out.drew
  have HPQ : Hid (∀ Q, eqY a b = Q → True) := hid (fun _ _ => trivial)
  go_upto_region 19 with fail
  by_cases hzb : sysC b = 0
  rotate_left
  · obtain ⟨C, hC⟩ : ∃ C, sysC b = C := ⟨_, rfl⟩
    rw [hC] at hzb ⊢
    have g1 : ((C : Int) != 0) = true := by rw [bne_iff_ne]; omega
    have g2 : (C != 0) = true := by rw [bne_iff_ne]; exact hzb
    clear hC hzb
    refine Plan.wp_region_pl [(false, 0, []), (false, 1, []), (false, 2, []), (false, 3, []), (false, 4, []), (false, 5, []), (false, 6, []), (false, 7, []), (true, 8, [5, 4, 3]), (false, 9, []), (false, 10, []), (false, 11, []), (false, 13, []), (false, 16, []), (false, 17, []), (true, 12, [17, 16, 13]), (true, 14, [17, 16]), (true, 15, [17, 16]), (true, 18, []), (false, 19, []), (false, 20, []), (false, 21, []), (false, 22, [])] (by as_aux_lemma => kernel_rfl) (by as_aux_lemma => kernel_rfl) ?_
    generalize w18.drew = wd at *
    iterate 8 (refine Plan.pl_st rfl ?_; go_big_quiet_step (fail); refine wpQuiet_nil ?_)
    refine Plan.pl_ac rfl ?_
    go_wp2
    refine Plan.plQ_mk ?_ ?_
    · iterate 3 (refine Plan.chk_st rfl ?_ ?_; focus (go_big_quiet_step (fail); exact wpQuiet_nil rfl))
      exact Plan.chk_end
    iterate 6 (refine Plan.pl_st rfl ?_; go_big_quiet_step (fail); refine wpQuiet_nil ?_)
    refine Plan.pl_ac rfl ?_
    go_wp2
    refine Plan.plQ_mk ?_ ?_
    · iterate 3 (refine Plan.chk_st rfl ?_ ?_; focus (go_big_quiet_step (fail); exact wpQuiet_nil rfl))
      exact Plan.chk_end
    refine Plan.pl_ac rfl ?_
    go_wp2
    refine Plan.plQ_mk ?_ ?_
    · iterate 2 (refine Plan.chk_st rfl ?_ ?_; focus (go_big_quiet_step (fail); exact wpQuiet_nil rfl))
      exact Plan.chk_end
    refine Plan.pl_ac rfl ?_
    go_wp2
    refine Plan.plQ_mk ?_ ?_
    · iterate 2 (refine Plan.chk_st rfl ?_ ?_; focus (go_big_quiet_step (fail); exact wpQuiet_nil rfl))
      exact Plan.chk_end
    refine Plan.pl_ac rfl ?_
    go_wp2
    refine Plan.plQ_mk Plan.chk_end ?_
    iterate 4 (refine Plan.pl_st rfl ?_; go_big_quiet_step (fail); refine wpQuiet_nil ?_)
    refine Plan.pl_end ?_
    go_wp2
    go_ret
    exact ⟨rfl, HZD.out⟩
  have HMB := hid ((HIB.out w (Keep.refl _ w)).mem (sys_oky hzb))
  have htw := HTW.out HMB.out
  have HLT := hid (lines_two HM.out HMB.out)
  have HLS : Hid ((linesY a).length ≤ 65536) := hid (by rw [HLL.out]; have := HCL.out; omega)
  rw [hzb]
  clear hzb
  refine Plan.wp_region_pl [(false, 0, []), (false, 1, []), (false, 2, []), (false, 3, []), (false, 4, []), (false, 5, []), (false, 6, []), (false, 7, []), (true, 8, [5, 4, 3]), (false, 9, []), (false, 10, []), (false, 11, []), (false, 13, []), (false, 16, []), (false, 17, []), (true, 12, [17, 16, 13]), (true, 14, [17, 16]), (true, 15, [17, 16]), (true, 18, []), (false, 19, []), (false, 20, []), (false, 21, []), (false, 22, [])] (by as_aux_lemma => kernel_rfl) (by as_aux_lemma => kernel_rfl) ?_
  generalize w18.drew = wd at *
  have HEQ := hid (fun wy (hk : Keep (fun _ => False) w wy) => craft_equal a b pa ca pc cc pa2 ca2 pc2 cc2 wy (by have := HBL.out; omega) (by have := HCL.out; omega) (HIA.out wy hk).aft (HIA.out wy hk).code (HIB.out wy hk).aft (HIB.out wy hk).code)
  generalize eqY a b = Q at *
  iterate 6 (refine Plan.pl_st rfl ?_; go_big_quiet_step (fail); refine wpQuiet_nil ?_)
  refine Plan.pl_st rfl ?_
  refine Plan.wpQuiet_load_g rfl 27 _ rfl _ rfl _ (load_sys HXD.out) ?_
  simp only [Act.put, List.setIfInBounds_toArray, List.set_cons_succ, List.set_cons_zero]
  refine wpQuiet_nil ?_
  refine Plan.pl_st rfl ?_
  refine Plan.wpQuiet_load_g rfl 27 _ rfl _ rfl _ (load_sys HYD.out) ?_
  simp only [Act.put, List.setIfInBounds_toArray, List.set_cons_succ, List.set_cons_zero]
  refine wpQuiet_nil ?_
  refine Plan.pl_ac rfl ?_
  go_wp2_with fail
  refine (HEQ.out wd HZD.out).mono ?_
  rintro r w19 ⟨rfl, hk⟩
  have HA19 := hid (hk.get HXD.out id); have HB19 := hid (hk.get HYD.out id); have HK19 := hid (HZD.out.trans hk)
  clear hk
  go_wp2
  refine Plan.plQ_mk ?_ ?_
  · iterate 3 (refine Plan.chk_st rfl ?_ ?_; focus (go_big_quiet_step (fail); exact wpQuiet_nil rfl))
    exact Plan.chk_end
  have hqq : (Q == Q) = true := by simp
  iterate 2 (refine Plan.pl_st rfl ?_; go_big_quiet_step (fail); refine wpQuiet_nil ?_)
  refine Plan.pl_st rfl ?_
  refine Plan.wpQuiet_load_g rfl 27 _ rfl _ rfl _ (load_sys HA19.out) ?_
  simp only [Act.put, List.setIfInBounds_toArray, List.set_cons_succ, List.set_cons_zero]
  refine wpQuiet_nil ?_
  refine Plan.pl_st rfl ?_
  refine Plan.wpQuiet_load_g rfl 27 _ rfl _ rfl _ (load_sys HB19.out) ?_
  simp only [Act.put, List.setIfInBounds_toArray, List.set_cons_succ, List.set_cons_zero]
  refine wpQuiet_nil ?_
  refine Plan.pl_st rfl ?_
  refine Plan.wpQuiet_load_g rfl 27 _ rfl _ rfl _ (load_sys HA19.out) ?_
  simp only [Act.put, List.setIfInBounds_toArray, List.set_cons_succ, List.set_cons_zero]
  refine wpQuiet_nil ?_
  refine Plan.pl_st rfl ?_
  refine Plan.wpQuiet_load_g rfl 27 _ rfl _ rfl _ (load_sys HB19.out) ?_
  simp only [Act.put, List.setIfInBounds_toArray, List.set_cons_succ, List.set_cons_zero]
  refine wpQuiet_nil ?_
  refine Plan.pl_ac rfl ?_
  go_wp2_with fail
  refine (HLA.out w19 HK19.out).mono ?_
  rintro r w20 ⟨ra, rc, rfl, ro, hk⟩
  have HRA := hid (tp_own ro)
  have HA20 := hid (hk.get HA19.out id); have HB20 := hid (hk.get HB19.out id); have HK20 := hid (HK19.out.trans hk)
  clear ro hk
  go_wp2
  refine Plan.plQ_mk ?_ ?_
  · refine Plan.chk_st rfl ?_ ?_
    focus (refine Plan.wpQuiet_load_g rfl 27 _ rfl _ rfl _ (load_sys HB20.out) ?_; exact wpQuiet_nil rfl)
    refine Plan.chk_st rfl ?_ ?_
    focus (refine Plan.wpQuiet_load_g rfl 27 _ rfl _ rfl _ (load_sys HA20.out) ?_; exact wpQuiet_nil rfl)
    refine Plan.chk_st rfl ?_ ?_
    focus (refine Plan.wpQuiet_load_g rfl 27 _ rfl _ rfl _ (load_sys HB20.out) ?_; exact wpQuiet_nil rfl)
    exact Plan.chk_end
  refine Plan.pl_ac rfl ?_
  go_wp2_with fail
  refine (HLB.out w20 HK20.out).mono ?_
  rintro r w21 ⟨sa, sc, rfl, so, hk⟩
  have HRB := hid (tp_own so)
  have HRA2 := hid (TP.mono (TP.low HRA.out (Low.keep0 hk)) hk.size)
  have HA21 := hid (hk.get HA20.out id); have HB21 := hid (hk.get HB20.out id); have HK21 := hid (HK20.out.trans hk)
  clear so hk HRA
  go_wp2
  refine Plan.plQ_mk ?_ ?_
  · refine Plan.chk_st rfl ?_ ?_
    focus (refine Plan.wpQuiet_load_g rfl 27 _ rfl _ rfl _ (load_sys HB21.out) ?_; exact wpQuiet_nil rfl)
    refine Plan.chk_st rfl ?_ ?_
    focus (refine Plan.wpQuiet_load_g rfl 27 _ rfl _ rfl _ (load_sys HA21.out) ?_; exact wpQuiet_nil rfl)
    exact Plan.chk_end
  refine Plan.pl_ac rfl ?_
  go_wp2_with fail
  refine (cr_texts (linesY a) (linesY b) ra sa rc sc w21 HLS.out HRA2.out HRB.out).mono ?_
  rw [HLT.out]
  rintro r w22 ⟨rfl, hk⟩
  have HA22 := hid (hk.get HA21.out id); have HB22 := hid (hk.get HB21.out id); have HK22 := hid (HK21.out.trans hk)
  clear hk
  go_wp2
  refine Plan.plQ_mk ?_ ?_
  · refine Plan.chk_st rfl ?_ ?_
    focus (refine Plan.wpQuiet_load_g rfl 27 _ rfl _ rfl _ (load_sys HB22.out) ?_; exact wpQuiet_nil rfl)
    refine Plan.chk_st rfl ?_ ?_
    focus (refine Plan.wpQuiet_load_g rfl 27 _ rfl _ rfl _ (load_sys HA22.out) ?_; exact wpQuiet_nil rfl)
    exact Plan.chk_end
  refine Plan.pl_ac rfl ?_
  go_wp2_with fail
  refine (HEQ.out w22 HK22.out).mono ?_
  rintro r w23 ⟨rfl, hk⟩
  have HK23 := hid (HK22.out.trans hk)
  clear hk
  go_wp2
  refine Plan.plQ_mk Plan.chk_end ?_
  iterate 4 (refine Plan.pl_st rfl ?_; go_big_quiet_step (fail); refine wpQuiet_nil ?_)
  refine Plan.pl_end ?_
  go_wp2
  go_ret
  exact ⟨rfl, HK23.out⟩
end Go.Proofs.YtbnhdmalkmcalaaDoor

namespace Go.Proofs.YtbnhdmalkmcalaaDoor
open Go.ChangeShapes Go.WideShapes Go.ChangeAt Go.RowKit Go.Proofs.Heap Go.Proofs.Sch

section
variable {H : Type} {enc : TypeId × Value → H} {W : World}

theorem trod_struct5C {P : Program} {w : World} {base : Nat} {spare : Nat → Bool} {held : Bool} {t : TypeId} {f0 f1 f2 f3 f4 : Field} {fuel : Nat} {cs : List Value} {x : DataW H × List MemPlace} (ht : P.underlying t = some (.struct #[f0, f1, f2, f3, f4])) (h : DataW.trod enc P w base spare held fuel t cs = some x) :
    ∃ y0 y1 y2 y3 y4 n, DataW.trod enc P w base spare held n f0.type ((cs.drop f0.offset).take (P.cellsOf f0.type)) = some y0 ∧
      DataW.trod enc P w base spare held n f1.type ((cs.drop f1.offset).take (P.cellsOf f1.type)) = some y1 ∧ DataW.trod enc P w base spare held n f2.type ((cs.drop f2.offset).take (P.cellsOf f2.type)) = some y2 ∧
      DataW.trod enc P w base spare held n f3.type ((cs.drop f3.offset).take (P.cellsOf f3.type)) = some y3 ∧ DataW.trod enc P w base spare held n f4.type ((cs.drop f4.offset).take (P.cellsOf f4.type)) = some y4 := by
  obtain ⟨xs, n, _, rfl, hl, hlen, hf⟩ := DataW.trod_struct ht h
  match xs, hlen with
  | [y0, y1, y2, y3, y4], _ => exact ⟨y0, y1, y2, y3, y4, n, by simpa using hf 0 f0 rfl, by simpa using hf 1 f1 rfl, by simpa using hf 2 f2 rfl, by simpa using hf 3 f3 rfl, by simpa using hf 4 f4 rfl⟩
theorem trod_struct6C {P : Program} {w : World} {base : Nat} {spare : Nat → Bool} {held : Bool} {t : TypeId} {f0 f1 f2 f3 f4 f5 : Field} {fuel : Nat} {cs : List Value} {x : DataW H × List MemPlace} (ht : P.underlying t = some (.struct #[f0, f1, f2, f3, f4, f5])) (h : DataW.trod enc P w base spare held fuel t cs = some x) :
    ∃ y0 y1 y2 y3 y4 y5 n, DataW.trod enc P w base spare held n f0.type ((cs.drop f0.offset).take (P.cellsOf f0.type)) = some y0 ∧
      DataW.trod enc P w base spare held n f1.type ((cs.drop f1.offset).take (P.cellsOf f1.type)) = some y1 ∧ DataW.trod enc P w base spare held n f2.type ((cs.drop f2.offset).take (P.cellsOf f2.type)) = some y2 ∧
      DataW.trod enc P w base spare held n f3.type ((cs.drop f3.offset).take (P.cellsOf f3.type)) = some y3 ∧ DataW.trod enc P w base spare held n f4.type ((cs.drop f4.offset).take (P.cellsOf f4.type)) = some y4 ∧ DataW.trod enc P w base spare held n f5.type ((cs.drop f5.offset).take (P.cellsOf f5.type)) = some y5 := by
  obtain ⟨xs, n, _, rfl, hl, hlen, hf⟩ := DataW.trod_struct ht h
  match xs, hlen with
  | [y0, y1, y2, y3, y4, y5], _ => exact ⟨y0, y1, y2, y3, y4, y5, n, by simpa using hf 0 f0 rfl, by simpa using hf 1 f1 rfl, by simpa using hf 2 f2 rfl, by simpa using hf 3 f3 rfl, by simpa using hf 4 f4 rfl, by simpa using hf 5 f5 rfl⟩
theorem wf_i64C {K : Int} (h : (Lit.int .i64 K).wf = true) : IB K := by
  have h : IntKind.i64.min ≤ K ∧ K ≤ IntKind.i64.max := by simpa [Lit.wf] using h
  have h1 : IntKind.i64.min = -9223372036854775808 := by decide
  have h2 : IntKind.i64.max = 9223372036854775807 := by decide
  unfold IB; omega
theorem wf_u32C {K : Int} (h : (Lit.int .u32 K).wf = true) : 0 ≤ K ∧ K < 4294967296 := by
  have h : IntKind.u32.min ≤ K ∧ K ≤ IntKind.u32.max := by simpa [Lit.wf] using h
  have h1 : IntKind.u32.min = 0 := by decide
  have h2 : IntKind.u32.max = 4294967295 := by decide
  omega
/-- A byte that a law is handed. -/
theorem wf_u8C {K : Int} (h : (Lit.int .u8 K).wf = true) : ∃ m : UInt8, K = (m.toNat : Int) := by
  have h : IntKind.u8.min ≤ K ∧ K ≤ IntKind.u8.max := by simpa [Lit.wf] using h
  have h1 : IntKind.u8.min = 0 := by decide
  have h2 : IntKind.u8.max = 255 := by decide
  refine ⟨UInt8.ofNat K.toNat, ?_⟩
  rw [UInt8.toNat_ofNat']
  omega
def VOpAtI (w : World) (b o : Nat) (x : VOp) : Prop := VOpAt w b o x ∧ IB x.k
set_option maxRecDepth 100000 in
theorem open_opC (a : Addr) (n : Nat) (cs : List Value) (D : DataW H × List MemPlace) (hc : W.cells? 0 a 5 = some cs) (h : DataW.trod enc Tryd.prog W 0 (fun _ => true) true n 50 cs = some D) :
    a.spot = none ∧ a.block < W.heap.size ∧ ∃ x : VOp, VOpAtI W a.block a.off x := by
  have hs_int : Tryd.prog.cellsOf 3 = 1 := by kernel_rfl
  obtain ⟨_, hlen, hat⟩ := World.cells?_some hc
  obtain ⟨y0, y1, y2, y3, y4, n', t0, t1, t2, t3, t4⟩ := trod_struct5C Tryd.underlying50 h
  match cs, hlen with
  | [u0, u1, u2, u3, u4], _ =>
    have g0 := hat 0 (by omega)
    have g1 := hat 1 (by omega)
    have g2 := hat 2 (by omega)
    have g3 := hat 3 (by omega)
    have g4 := hat 4 (by omega)
    simp only [hs_int, List.drop, List.take] at t0 t1 t2 t3 t4
    obtain ⟨K0, eK0, _, _⟩ := DataW.trod_int Tryd.underlying3 t0
    obtain ⟨K1, eK1, _, _⟩ := DataW.trod_int Tryd.underlying3 t1
    obtain ⟨K2, eK2, _, _⟩ := DataW.trod_int Tryd.underlying3 t2
    obtain ⟨K3, eK3, _, _⟩ := DataW.trod_int Tryd.underlying3 t3
    obtain ⟨K4, eK4, _, wf4⟩ := DataW.trod_int Tryd.underlying3 t4
    simp at eK0 eK1 eK2 eK3 eK4
    subst eK0; subst eK1; subst eK2; subst eK3; subst eK4
    obtain ⟨h1, h2⟩ := spot_of g0
    obtain ⟨b, off, spot⟩ := a
    simp only at h1 h2
    subst h1
    rw [addr_add] at g0 g1 g2 g3 g4
    exact ⟨rfl, h2, ⟨K0, K1, K2, K3, K4⟩, ⟨g0, g1, g2, g3, g4⟩, wf_i64C wf4⟩
set_option maxRecDepth 100000 in
theorem open_opsC {fuel : Nat} {cs : List Value} {x : DataW H × List MemPlace} (h : DataW.trod enc Tryd.prog W 0 (fun _ => true) true fuel 25 cs = some x) :
    ∃ (p : Option Addr) (c : Nat) (l : List VOp), cs = [.slice p l.length c] ∧ l.length ≤ c ∧ VP W W.heap.size p l ∧ ∀ x ∈ l, IB x.k := by
  obtain ⟨p, c, l, h1, h2, h3⟩ := open_row Tryd.underlying25 (by kernel_rfl) VOpAtI (fun a n cs D hc h => open_opC a n cs D hc h) h
  refine ⟨p, c, l, h1, h2, RowP.imp h3 (Nat.le_refl _) fun _ _ _ _ hx => hx.1, fun x hx => ?_⟩
  rcases h3 with rfl | ⟨b, off, _, _, hc⟩
  · simp at hx
  · obtain ⟨i, hi, rfl⟩ := List.getElem_of_mem hx
    exact (hc i _ (List.getElem?_eq_getElem hi)).2
set_option maxRecDepth 100000 in
theorem open_strC (a : Addr) (n : Nat) (cs : List Value) (D : DataW H × List MemPlace) (hc : W.cells? 0 a 1 = some cs) (h : DataW.trod enc Tryd.prog W 0 (fun _ => true) true n 9 cs = some D) :
    a.spot = none ∧ a.block < W.heap.size ∧ ∃ x : ByteArray, StrAt W a.block a.off x := by
  obtain ⟨_, hlen, hat⟩ := World.cells?_some hc
  match cs, hlen with
  | [u0], _ =>
    have g0 := hat 0 (by omega)
    obtain ⟨K0, eK0, _, _⟩ := DataW.trod_string Tryd.underlying9 h
    simp at eK0
    subst eK0
    obtain ⟨h1, h2⟩ := spot_of g0
    obtain ⟨b, off, spot⟩ := a
    simp only at h1 h2
    subst h1
    rw [addr_add] at g0
    exact ⟨rfl, h2, K0, g0⟩
set_option maxRecDepth 100000 in
theorem open_strsC {fuel : Nat} {cs : List Value} {x : DataW H × List MemPlace} (h : DataW.trod enc Tryd.prog W 0 (fun _ => true) true fuel 22 cs = some x) :
    ∃ (p : Option Addr) (c : Nat) (l : List ByteArray), cs = [.slice p l.length c] ∧ l.length ≤ c ∧ TP W W.heap.size p l :=
  open_row Tryd.underlying22 (by kernel_rfl) StrAt (fun a n cs D hc h => open_strC a n cs D hc h) h

set_option maxRecDepth 100000 in
/-- A system that a law is handed. -/
theorem open_system_of {v : Value} {r : Reach} {b : Nat} (hv : Value.okWide Tryd.prog W r b 27 v) {fuel : Nat} {x : DataW H × List MemPlace} (h : DataW.trod enc Tryd.prog W 0 (fun _ => true) true fuel 27 v.cells.toList = some x) :
    ∃ (s : VSys) (pa : Option Addr) (ca : Nat) (pc : Option Addr) (cc : Nat), v = SysV s pa ca pc cc ∧ SysIn W s pa ca pc := by
  have hs_int : Tryd.prog.cellsOf 3 = 1 := by kernel_rfl
  have hs_string : Tryd.prog.cellsOf 9 = 1 := by kernel_rfl
  have hs_strs : Tryd.prog.cellsOf 22 = 1 := by kernel_rfl
  have hs_sig : Tryd.prog.cellsOf 24 = 1 := by kernel_rfl
  have hs_ops : Tryd.prog.cellsOf 25 = 1 := by kernel_rfl
  have hs : Tryd.prog.cellsOf 27 = 6 := by kernel_rfl
  unfold Value.okWide at hv
  rw [Tryd.underlying27] at hv
  obtain ⟨cs, rfl, hsz, _⟩ := hv
  rw [hs] at hsz
  obtain ⟨⟨u0, u1, u2, u3, u4, u5, rfl⟩⟩ : Nonempty (∃ u0 u1 u2 u3 u4 u5, cs = #[u0, u1, u2, u3, u4, u5]) := by
    obtain ⟨l⟩ := cs
    match l, hsz with
    | [u0, u1, u2, u3, u4, u5], _ => exact ⟨u0, u1, u2, u3, u4, u5, rfl⟩
  obtain ⟨y0, y1, y2, y3, y4, y5, n', t0, t1, t2, t3, t4, t5⟩ := trod_struct6C Tryd.underlying27 h
  simp only [Value.cells, hs_int, hs_string, hs_strs, hs_sig, hs_ops, List.drop, List.take] at t0 t1 t2 t3 t4 t5
  obtain ⟨K0, eK0, _, _⟩ := DataW.trod_string Tryd.underlying9 t0
  obtain ⟨K1, eK1, _, _⟩ := DataW.trod_int Tryd.underlying3 t1
  obtain ⟨p2, c2, l2, eK2, hlc2, hfp2⟩ := open_strsC t2
  obtain ⟨K3, eK3, _, wf3⟩ := DataW.trod_int Tryd.underlying24 t3
  obtain ⟨K4, eK4, _, wf4⟩ := DataW.trod_int Tryd.underlying24 t4
  obtain ⟨p5, c5, l5, eK5, hlc5, hfp5, hb5⟩ := open_opsC t5
  simp at eK0 eK1 eK2 eK3 eK4 eK5
  subst eK0; subst eK1; subst eK2; subst eK3; subst eK4; subst eK5
  obtain ⟨b3, b3'⟩ := wf_u32C wf3
  obtain ⟨b4, b4'⟩ := wf_u32C wf4
  obtain ⟨N3, rfl⟩ := Int.eq_ofNat_of_zero_le b3
  obtain ⟨N4, rfl⟩ := Int.eq_ofNat_of_zero_le b4
  exact ⟨⟨K0, K1, l2, N3, N4, l5⟩, p2, c2, p5, c5, rfl, by simp only; omega, by simp only; omega, hlc2, hfp2, hfp5, hb5⟩
set_option maxRecDepth 100000 in
/-- An instruction that a law is handed. -/
theorem open_op_of {v : Value} {r : Reach} {b : Nat} (hv : Value.okWide Tryd.prog W r b 50 v) {fuel : Nat} {x : DataW H × List MemPlace} (h : DataW.trod enc Tryd.prog W 0 (fun _ => true) true fuel 50 v.cells.toList = some x) :
    ∃ y : VOp, v = OV y := by
  have hs_int : Tryd.prog.cellsOf 3 = 1 := by kernel_rfl
  have hs : Tryd.prog.cellsOf 50 = 5 := by kernel_rfl
  unfold Value.okWide at hv
  rw [Tryd.underlying50] at hv
  obtain ⟨cs, rfl, hsz, _⟩ := hv
  rw [hs] at hsz
  obtain ⟨⟨u0, u1, u2, u3, u4, rfl⟩⟩ : Nonempty (∃ u0 u1 u2 u3 u4, cs = #[u0, u1, u2, u3, u4]) := by
    obtain ⟨l⟩ := cs
    match l, hsz with
    | [u0, u1, u2, u3, u4], _ => exact ⟨u0, u1, u2, u3, u4, rfl⟩
  obtain ⟨y0, y1, y2, y3, y4, n', t0, t1, t2, t3, t4⟩ := trod_struct5C Tryd.underlying50 h
  simp only [Value.cells, hs_int, List.drop, List.take] at t0 t1 t2 t3 t4
  obtain ⟨K0, eK0, _, _⟩ := DataW.trod_int Tryd.underlying3 t0
  obtain ⟨K1, eK1, _, _⟩ := DataW.trod_int Tryd.underlying3 t1
  obtain ⟨K2, eK2, _, _⟩ := DataW.trod_int Tryd.underlying3 t2
  obtain ⟨K3, eK3, _, _⟩ := DataW.trod_int Tryd.underlying3 t3
  obtain ⟨K4, eK4, _, _⟩ := DataW.trod_int Tryd.underlying3 t4
  simp at eK0 eK1 eK2 eK3 eK4
  subst eK0; subst eK1; subst eK2; subst eK3; subst eK4
  exact ⟨⟨K0, K1, K2, K3, K4⟩, rfl⟩
end
end Go.Proofs.YtbnhdmalkmcalaaDoor

namespace Go.Proofs.YtbnhdmalkmcalaaDoor
open Go.RowKit Go.Proofs.Heap Go.Proofs.Sch

def ocS (x : VOp) : List Value := [.int .i64 x.code, .int .i64 x.a, .int .i64 x.b, .int .i64 x.c, .int .i64 x.k]
theorem info_opS : (Tryd.prog.info? 83).map (fun i => (i.zero, i.size, i.bytes)) = some (some (.agg #[.int .i64 0, .int .i64 0, .int .i64 0, .int .i64 0, .int .i64 0]), 5, 40) := by kernel_rfl
theorem flat_getS {α β : Type} {f : α → List β} {z : Nat} (hf : ∀ x, (f x).length = z) : ∀ {l : List α} {i r : Nat} {x : α}, l[i]? = some x → r < z → (l.flatMap f)[i * z + r]? = (f x)[r]?
  | [], i, r, x, h, _ => by simp at h
  | a :: l, 0, r, x, h, hr => by
    simp at h
    subst h
    rw [List.flatMap_cons, Nat.zero_mul, Nat.zero_add, List.getElem?_append_left (by rw [hf]; exact hr)]
  | a :: l, i + 1, r, x, h, hr => by
    rw [List.flatMap_cons, List.getElem?_append_right (by rw [hf]; rw [Nat.succ_mul]; omega), hf, show (i + 1) * z + r - z = i * z + r by rw [Nat.succ_mul]; omega]
    exact flat_getS hf (by simpa using h) hr
theorem owns_flatS {α : Type} {f : α → List Value} {z : Nat} (hf : ∀ x, (f x).length = z) {w : World} {base n c g i r : Nat} {e : TypeId} {l : List α} {x : α} {u : Value} (h : w.ownsRow base e z (.slice (some ⟨g, 0, none⟩) n c) n (l.flatMap f)) (hx : l[i]? = some x) (hr : r < z) (hu : (f x)[r]? = some u) : w.cell? ⟨g, i * z + r, none⟩ = some u := by
  have h1 := flat_getS hf hx hr
  rw [hu] at h1
  have h2 := h.cells (g := g) rfl (i * z + r) u h1
  have hadd : (⟨g, 0, none⟩ : Addr).add (i * z + r) = ⟨g, i * z + r, none⟩ := by unfold Addr.add; split <;> simp_all
  rwa [hadd] at h2
theorem vp_ownS {w : World} {base n c : Nat} {e : TypeId} {p : Option Addr} {l : List VOp} (hn : l.length = n) (h : w.ownsRow base e 5 (.slice p n c) n (l.flatMap ocS)) : VP w w.heap.size p l := by
  rcases Nat.eq_zero_or_pos n with h0 | h0
  · exact .inl (List.eq_nil_of_length_eq_zero (by omega))
  · obtain ⟨q, rfl⟩ := owns_some h h0
    refine .inr ⟨q, 0, rfl, (h.lt q (by simp [Value.ownBlock])).2, fun i x hx => ?_⟩
    have hf : ∀ x, (ocS x).length = 5 := fun _ => rfl
    rw [Nat.zero_add]
    exact ⟨owns_flatS hf h hx (r := 0) (by omega) rfl, owns_flatS hf h hx (r := 1) (by omega) rfl, owns_flatS hf h hx (r := 2) (by omega) rfl, owns_flatS hf h hx (r := 3) (by omega) rfl, owns_flatS hf h hx (r := 4) (by omega) rfl⟩
theorem cells6S {w : World} {b : Nat} {t : TypeId} {v0 v1 v2 v3 v4 v5 : Value} (x0 x1 x2 x3 x4 x5 : Value) (h : w.heap[b]? = some (.cells #[v0, v1, v2, v3, v4, v5] t (0, 0))) :
    ((((((w.setCell ⟨b, 0, none⟩ x0).setCell ⟨b, 1, none⟩ x1).setCell ⟨b, 2, none⟩ x2).setCell ⟨b, 3, none⟩ x3).setCell ⟨b, 4, none⟩ x4).setCell ⟨b, 5, none⟩ x5).heap[b]? = some (.cells #[x0, x1, x2, x3, x4, x5] t (0, 0)) := by
  rw [hsc_same (hsc_same (hsc_same (hsc_same (hsc_same (hsc_same h 0 x0) 1 x1) 2 x2) 3 x3) 4 x4) 5 x5]; rfl

set_option maxRecDepth 20000 in
set_option maxHeartbeats 16000000 in
theorem cr_form (s : VSys) (pa : Option Addr) (ca : Nat) (pc : Option Addr) (cc : Nat) (w : World) (hl : s.code.length ≤ 1000) (hc : VP w w.heap.size pc s.code) :
    Calls Tryd.prog 11 #[SysV s pa ca pc cc] w fun r w' => ∃ oa oc, r = .returned (SysV s pa ca oa oc) ∧ VP w' w'.heap.size oa s.code ∧ (∀ ad, oa = some ad → w.heap.size ≤ ad.block ∧ ad.block < w'.heap.size) ∧ Keep (fun _ => False) w w' := by
  obtain ⟨w1, hw1, hb1, hb2, hb3, hs1, hk1⟩ := box3 w (SysC s pa ca pc cc) #[.string ⟨#[]⟩, .int .i64 0, .slice none 0 0, .int .u32 0, .int .u32 0, .slice none 0 0] #[.string s.name, .int .i64 s.stage, .slice pa s.after.length ca, .int .u32 (s.all : Int), .int .u32 (s.none : Int), .slice none 0 0] 27 32 32
  have HK1 := hid hk1; have HB1 := hid hb1; have HB2 := hid hb2; have HB3 := hid hb3
  have HVP : Hid (∀ wy, Keep (fun _ => False) w wy → VP wy wy.heap.size pc s.code) := hid (fun wy hk => VP.mono (VP.low hc (Low.keep0 hk)) hk.size)
  have HL := hid hl
  have HSZ : Hid (w1.heap.size = w.heap.size + 1 + 1 + 1) := hid (by omega)
  obtain ⟨i0, hi0, hz0, hz1, hz2⟩ := info_parts' info_opS
  have HI := hid (And.intro hi0 (And.intro hz0 (And.intro hz1 hz2)))
  have c0 := cell_of hb1 (i := 0) (by rfl)
  have c1 := cell_of hb1 (i := 1) (by rfl)
  have c2 := cell_of hb1 (i := 2) (by rfl)
  have c3 := cell_of hb1 (i := 3) (by rfl)
  have c4 := cell_of hb1 (i := 4) (by rfl)
  have c5 := cell_of hb1 (i := 5) (by rfl)
  clear hi0 hz0 hz1 hz2 hb1 hb2 hb3 hk1 hs1 hc hl
  go_enter Tryd.func11, Tryd.ntmps11
  go_upto_region 2 with fail
  rw [← hw1]
  clear hw1 c0 c1 c2 c3 c4 c5
  obtain ⟨sb, hsb⟩ : ∃ sb, w.heap.size = sb := ⟨_, rfl⟩
  have HSB := hid hsb
  rw [hsb] at HB1 HB2 HB3 HSZ ⊢
  clear hsb
  go_wp2_with fail
  go_loopw [4, 5] (fun i _ wr => ∃ (k : Nat) (a : Option Addr) (c : Nat), k ≤ s.code.length ∧ i = iV k ∧ wr.heap[sb + 1 + 1]? = some (.cells #[.string s.name, .int .i64 s.stage, .slice pa s.after.length ca, .int .u32 (s.all : Int), .int .u32 (s.none : Int), .slice a k c] 32 (0, 0)) ∧ wr.ownsRow w1.heap.size 83 5 (.slice a k c) k ((s.code.take k).flatMap ocS) ∧ Keep (fun k => k = sb + 1 + 1) w1 wr) (fun i _ _ => s.code.length + 1 - (intOf i).toNat)
  case atStart => exact ⟨0, none, 0, by omega, rfl, HB3.out, World.ownsRow_nil _ _ _ _, Keep.refl _ _⟩
  case round =>
    obtain ⟨k, a, c, hk, rfl, hbo, hown, hkr⟩ := hrel
    have HBO := hid hbo; have HO := hid hown; have HKR := hid hkr
    have HKW : Hid (Keep (fun _ => False) w wr) := hid (keep_new HK1.out hkr (fun k e => by have := HSB.out; omega))
    have HBS : Hid (wr.heap[sb]? = some (.cells (SysC s pa ca pc cc) 27 (0, 0))) := hid (hkr.get HB1.out (by omega))
    have c5 : wr.cell? ⟨sb, 5, none⟩ = some (.slice pc s.code.length cc) := cell_of HBS.out (by rfl)
    clear hbo hown hkr
    have hl := HL.out
    by_cases hlt : k < s.code.length
    · obtain ⟨x, hx⟩ : ∃ x, s.code[k]? = some x := ⟨s.code[k], by simp [hlt]⟩
      obtain ⟨b, off, rfl, hb, x0, x1, x2, x3, x4⟩ := VP.at (HVP.out _ HKW.out) hx
      have hin : (0 : Int) ≤ (k : Int) ∧ (k : Int) < (s.code.length : Int) := ⟨by omega, by omega⟩
      have HNX : Hid ((s.code.take (k + 1)).flatMap ocS = (s.code.take k).flatMap ocS ++ ocS x) := hid (by rw [take_next hx, List.flatMap_append]; simp)
      generalize (s.code.take k).flatMap ocS = cl at *
      obtain ⟨w5, hw5, hb5, hs5, hk5⟩ := box1 wr (OC x) 50
      have HK5 := hid (HKR.out.trans (hk5.mono (T := fun k => k = sb + 1 + 1) (fun _ _ h => h.elim)))
      have HB5 := hid hb5
      have HO5 := hid (owns_keep (w' := w5) HO.out (fun j hj => hk5.block j (HO.out.lt j hj).2 id))
      have HBO5 := hid (hk5.get HBO.out id)
      clear hx hb hb5 hs5 hk5
      go_upto_region 6 with fail
      rw [← hw5]
      clear hw5 x0 x1 x2 x3 x4 c5
      generalize wr.heap.size = xb at *
      have y0 : w5.cell? ⟨xb, 0, none⟩ = some (.int .i64 x.code) := cell_of HB5.out (by rfl)
      have y1 : w5.cell? ⟨xb, 1, none⟩ = some (.int .i64 x.a) := cell_of HB5.out (by rfl)
      have y2 : w5.cell? ⟨xb, 2, none⟩ = some (.int .i64 x.b) := cell_of HB5.out (by rfl)
      have y3 : w5.cell? ⟨xb, 3, none⟩ = some (.int .i64 x.c) := cell_of HB5.out (by rfl)
      have y4 : w5.cell? ⟨xb, 4, none⟩ = some (.int .i64 x.k) := cell_of HB5.out (by rfl)
      have z5 : w5.cell? ⟨sb + 1 + 1, 5, none⟩ = some (.slice a k c) := cell_of HBO5.out (by rfl)
      have HBW : Hid (sb + 1 + 1 < w5.heap.size) := hid (lt_of_heap HBO5.out)
      have HNB : Hid ((Value.slice a k c).ownBlock ≠ some (sb + 1 + 1)) := hid (fun e => by have := (HO5.out.lt _ e).1; have := HSZ.out; omega)
      go_wp2_with (at_builtin; go_loud (refine wpList_append_rd rfl _ _ _ rfl w1.heap.size _ i0 _ 5 40 Tryd.underlying30 HI.out.1 HI.out.2.1 HI.out.2.2.1 HI.out.2.2.2 rfl (by decide) _ k cl (by rfl) (HO5.out.alloc _) _ 1 (ocS x) (by rfl) (rd_block (heap_alloc_new w5 _) (by simp [ocS]) (by simp [ocS, Value.oneCell'])) (by unfold maxLen; omega) (by omega) (by have := HK5.out.size; simp; omega) ?_; intro v' w6 hown6 hgrow6 hat6 hn6; obtain ⟨vr, ve, rfl⟩ := owns_val hown6; rw [← HNX.out] at hown6; have HO6 := hid hown6; have HKO := hid ((Keep.refl (fun j => (Value.slice a k c).ownBlock = some j) w5).alloc _ |>.grown hgrow6 (fun k hk => .inr hk)); have HK6 := hid (HK5.out.trans' HKO.out (fun j hj h => by have := (HO5.out.lt j h).1; omega)); have HB6 := hid (HKO.out.get HBO5.out HNB.out); have HN6 : Hid ((Value.slice vr (k + 1) ve).ownBlock ≠ some (sb + 1 + 1)) := hid (fun e => by have := (HO6.out.lt _ e).1; have := HSZ.out; omega); have q5 : w6.cell? ⟨sb + 1 + 1, 5, none⟩ = some (.slice a k c) := cell_of HB6.out (by rfl); have f5 : w6.frozen? ⟨sb + 1 + 1, 5, none⟩ = false := free_of HB6.out 5; clear hown6 hgrow6 hat6 hn6 y0 y1 y2 y3 y4 z5))
      go_roundw
      case rel => exact ⟨k + 1, vr, ve, by omega, by go_num, by rw [hsc_same HB6.out]; rfl, owns_keep HO6.out (fun j hj => hsc_ne _ (fun e => HN6.out (e ▸ hj))), HK6.out.setCell (p := ⟨sb + 1 + 1, 5, none⟩) rfl _⟩
      case measure => simp [intOf]; omega
    · obtain rfl : k = s.code.length := by omega
      have HVF : Hid (VP wr wr.heap.size a s.code) := hid (vp_ownS rfl (by have := HO.out; rwa [List.take_length] at this))
      obtain ⟨tb, htb⟩ : ∃ tb, sb + 1 = tb := ⟨_, rfl⟩
      have HTB := hid htb
      have HB2' : Hid (wr.heap[tb]? = some (.cells #[.string ⟨#[]⟩, .int .i64 0, .slice none 0 0, .int .u32 0, .int .u32 0, .slice none 0 0] 32 (0, 0))) := hid (by rw [← htb]; exact HKR.out.get HB2.out (by omega))
      rw [htb] at HBO ⊢
      clear htb
      have z0 := cell_of HB2'.out (i := 0) (by rfl)
      have z1 := cell_of HB2'.out (i := 1) (by rfl)
      have z2 := cell_of HB2'.out (i := 2) (by rfl)
      have z3 := cell_of HB2'.out (i := 3) (by rfl)
      have z4 := cell_of HB2'.out (i := 4) (by rfl)
      have z5 := cell_of HB2'.out (i := 5) (by rfl)
      have f0 := free_of HB2'.out 0
      have f1 := free_of HB2'.out 1
      have f2 := free_of HB2'.out 2
      have f3 := free_of HB2'.out 3
      have f4 := free_of HB2'.out 4
      have f5 := free_of HB2'.out 5
      have q0 := cell_of HBO.out (i := 0) (by rfl)
      have q1 := cell_of HBO.out (i := 1) (by rfl)
      have q2 := cell_of HBO.out (i := 2) (by rfl)
      have q3 := cell_of HBO.out (i := 3) (by rfl)
      have q4 := cell_of HBO.out (i := 4) (by rfl)
      have q5 := cell_of HBO.out (i := 5) (by rfl)
      have HB4 := hid (cells6S (.string s.name) (.int .i64 s.stage) (.slice pa s.after.length ca) (.int .u32 (s.all : Int)) (.int .u32 (s.none : Int)) (.slice a s.code.length c) HB2'.out)
      have HK4 : Hid (Keep (fun k => k = tb) wr ((((((wr.setCell ⟨tb, 0, none⟩ (.string s.name)).setCell ⟨tb, 1, none⟩ (.int .i64 s.stage)).setCell ⟨tb, 2, none⟩ (.slice pa s.after.length ca)).setCell ⟨tb, 3, none⟩ (.int .u32 (s.all : Int))).setCell ⟨tb, 4, none⟩ (.int .u32 (s.none : Int))).setCell ⟨tb, 5, none⟩ (.slice a s.code.length c))) := hid (((((((Keep.refl (fun k => k = tb) wr).setCell (p := ⟨tb, 0, none⟩) rfl _).setCell (p := ⟨tb, 1, none⟩) rfl _).setCell (p := ⟨tb, 2, none⟩) rfl _).setCell (p := ⟨tb, 3, none⟩) rfl _).setCell (p := ⟨tb, 4, none⟩) rfl _).setCell (p := ⟨tb, 5, none⟩) rfl _)
      have HOWN := HO
      have HFIN : Hid (∀ w3, Keep (fun k => k = tb) wr w3 → VP w3 w3.heap.size a s.code ∧ (∀ ad, a = some ad → w.heap.size ≤ ad.block ∧ ad.block < w3.heap.size) ∧ Keep (fun _ => False) w w3) := hid (fun w3 hk => by
        refine ⟨?_, ?_, ?_⟩
        · have ho := owns_keep (w' := w3) HOWN.out (fun k hk' => hk.block k (HOWN.out.lt k hk').2 (fun e => by
            have h1 := (HOWN.out.lt k hk').1
            have h2 := HTB.out
            have h3 := HSZ.out
            omega))
          rw [List.take_length] at ho
          exact vp_ownS rfl ho
        · rintro ad rfl
          rcases owns_block HOWN.out with ⟨e, _⟩ | ⟨g, _, _, e, hb, hg, _⟩
          · cases e
          · injection e with e
            injection e with e
            subst e
            have h1 := lt_of_heap hg
            have h2 := hk.size
            have h3 := HK1.out.size
            exact ⟨by show w.heap.size ≤ g; omega, by show g < w3.heap.size; omega⟩
        · exact keep_new HKW.out hk (fun k e => by have := HTB.out; have := HSB.out; omega))
      go_wp2_with fail
      clear z0 z1 z2 z3 z4 z5 f0 f1 f2 f3 f4 f5 q0 q1 q2 q3 q4 q5
      generalize ((((((wr.setCell ⟨tb, 0, none⟩ (.string s.name)).setCell ⟨tb, 1, none⟩ (.int .i64 s.stage)).setCell ⟨tb, 2, none⟩ (.slice pa s.after.length ca)).setCell ⟨tb, 3, none⟩ (.int .u32 (s.all : Int))).setCell ⟨tb, 4, none⟩ (.int .u32 (s.none : Int))).setCell ⟨tb, 5, none⟩ (.slice a s.code.length c)) = w3 at *
      (try simp only [Exit.inBlock, Exit.then])
      refine bodyPost_ret (results_c rfl _ rfl (run_loadVar_row _ tb _ 32 _ _ _ HB4.out Tryd.underlying32 rfl (by kernel_rfl))) rfl ?_
      exact ⟨a, c, rfl, HFIN.out w3 HK4.out⟩
end Go.Proofs.YtbnhdmalkmcalaaDoor
