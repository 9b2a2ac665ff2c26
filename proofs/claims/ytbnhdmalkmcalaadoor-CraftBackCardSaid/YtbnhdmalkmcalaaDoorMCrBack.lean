/- What is proved: the walk of CraftBack: what was encoded is decoded as it was. -/
import Derived.Test.YtbnhdmalkmcalaaDoorMCrEq
import Derived.Test.YtbnhdmalkmcalaaDoorMHeap
import Derived.Deep.Grids
import Derived.Test.YtbnhdmalkmcalaaDoorRows
import Derived.LaidSub
import Derived.Lib.LaidTab
import Derived.Stop.Joined
import Derived.LaidMore
namespace Go.Proofs.Plan
section
variable {P : Program} {ops : Array Oper}
theorem wpQuiet_load_g {Q : Act → Prop} {rest : List Oper} {a : Act} {o : Oper} {w : World} (hgd : Region.wanted o (yielded ops a.tmps) = true) (ty : TypeId) (x : Operand) (ho : o.op = .load ty x) (ad : Addr) (hx : a.eval x = .pointer (some ad)) (v : Value)
  (hl : (loadVar ty ad).run P w = .ok v w) (h : wpQuiet P ops (fun w' => w' = w) Q rest (a.put o.dst v)) : wpQuiet P ops (fun w' => w' = w) Q (o :: rest) a := by
  refine BigFrame.wpQuiet_want hgd fun K hK => ⟨v, fun w' hw' => ?_, hK _ h⟩
  subst hw'
  unfold Oper.quietAt execOp
  simp [ho, hx, Instr.loadAt, Instr.sureAddr, hl]
  exact ⟨rfl, rfl⟩
end
end Go.Proofs.Plan
namespace Go.Proofs.YtbnhdmalkmcalaaDoor
open Go.RowKit Go.Proofs.Heap Go.Proofs.Sch

/-- A system handed in. -/
structure SysIn (w : World) (s : VSys) (pa : Option Addr) (ca : Nat) (pc : Option Addr) : Prop where
  all : s.all < 4294967296
  none : s.none < 4294967296
  cap : s.after.length ≤ ca
  aft : TP w w.heap.size pa s.after
  code : VP w w.heap.size pc s.code
  k : ∀ x ∈ s.code, IB x.k
theorem SysIn.keep {w w' : World} {s : VSys} {pa : Option Addr} {ca : Nat} {pc : Option Addr} (h : SysIn w s pa ca pc) (hk : Keep (fun _ => False) w w') : SysIn w' s pa ca pc :=
  ⟨h.all, h.none, h.cap, TP.mono (TP.low h.aft (Low.keep0 hk)) hk.size, VP.mono (VP.low h.code (Low.keep0 hk)) hk.size, h.k⟩
theorem SysIn.mem {w : World} {s : VSys} {pa : Option Addr} {ca : Nat} {pc : Option Addr} (h : SysIn w s pa ca pc) (hok : OkY s) : MemY s := ⟨hok, h.all, h.none, fun x hx => by have := h.k x hx; unfold IB at this; omega⟩
theorem one_byte (w : World) (m : UInt8) : (convert 55 9 (.slice (some ⟨w.heap.size, 0, none⟩) 1 1)).run Tryd.prog (w.alloc (.cells #[.int .u8 (m.toNat : Int)] 5)) = .ok (.string ⟨#[m]⟩) (w.alloc (.cells #[.int .u8 (m.toNat : Int)] 5)) := by
  refine run_bytes_string _ _ _ 5 Tryd.underlying55 Tryd.underlying5 Tryd.underlying9 _ 0 1 1 [m] rfl (fun i x hx => ?_)
  match i, hx with
  | 0, hx =>
    injection hx with hx
    subst hx
    exact cell_of (heap_alloc_new w _) rfl
  | _ + 1, hx => simp at hx
theorem encS_size (s : VSys) : (encS s).size ≤ 9223372036854775807 - 1 := by
  unfold encS
  split
  next h =>
    have hok := sys_oky h
    have h1 := aftL_len hok s.after.length
    have h2 := codL_len hok s.code.length
    rw [List.take_length] at h1 h2
    have h3 := nameL_len s.name
    have h4 := nameB_size hok.name
    show (encL s).toArray.size ≤ _
    rw [List.size_toArray]
    unfold encL
    simp only [List.length_append, leL_len]
    omega
  · decide
/-- A system's bytes and a byte more, or less. -/
theorem back_more {s : VSys} (h : MemY s) (m : UInt8) : decE (encS s ++ ⟨#[m]⟩) = 4 := by
  have e : encS s ++ ⟨#[m]⟩ = bsB (encL s ++ [m]) := by unfold encS; rw [if_pos (oky_sys h.ok)]; exact ba_inj (by rw [ByteArray.data_append, Array.toList_append]; rfl)
  rw [e]
  unfold decE; rw [good_more h m]; rfl
theorem back_less {s : VSys} (h : MemY s) : decE ((encS s).extract 0 ((encS s).size - 1)) = 4 := by
  have e0 : encS s = bsB (encL s) := if_pos (oky_sys h.ok)
  have hp := encL_pos s
  have e : (encS s).extract 0 ((encS s).size - 1) = bsB ((encL s).take ((encL s).length - 1)) := by
    rw [e0, bs_ext, bs_size, List.drop_zero, Nat.sub_zero]
  rw [e]
  unfold decE
  have hd : (encL s).drop ((encL s).length - 1) = [(encL s)[(encL s).length - 1]] := by
    rw [List.drop_eq_getElem_cons (by omega), List.drop_of_length_le (by omega)]
  rw [good_less h (b := (encL s)[(encL s).length - 1]) (by rw [bs_list, ← hd, List.take_append_drop])]
  rfl
theorem back_same {s : VSys} (h : MemY s) : decE (encS s) = 0 ∧ decY (encS s) = s := by
  have e0 : encS s = bsB (encL s) := if_pos (oky_sys h.ok)
  rw [e0]
  refine ⟨?_, dec_enc h⟩
  unfold decE; rw [if_pos (good_enc h)]
theorem back_two {a b : VSys} (ha : MemY a) (hb : MemY b) : ((encS a).toList == (encS b).toList) = eqY a b := by
  apply Bool.eq_iff_iff.2
  rw [eqY_iff, beq_iff_eq]
  constructor
  · intro h
    refine enc_inj ha hb ?_
    have e1 : encS a = bsB (encL a) := if_pos (oky_sys ha.ok)
    have e2 : encS b = bsB (encL b) := if_pos (oky_sys hb.ok)
    rw [e1, e2, tl_eq, tl_eq] at h
    exact h
  · rintro rfl; rfl
theorem lines_two {a b : VSys} (ha : MemY a) (hb : MemY b) : decide (linesY a = linesY b) = eqY a b := by
  apply Bool.eq_iff_iff.2
  rw [eqY_iff, decide_eq_true_iff]
  exact ⟨lines_inj ha hb, fun h => by rw [h]⟩
/-- What bytes are decoded as is encoded as the same bytes. -/
theorem back_bytesY {s : ByteArray} (h : goodY s = true) : encS (decY s) = s ∧ sysC (decY s) = 0 := by
  obtain ⟨h1, h2⟩ := good_enc_of h
  have h3 : sysC (decY s) = 0 := by rw [h1]; exact oky_sys (good_parts h)
  refine ⟨?_, h3⟩
  unfold encS
  rw [if_pos h3]
  exact h2.symm
theorem lines_len {a : VSys} (h : sysC a = 0) : (linesY a).length = a.code.length + 2 := by
  unfold linesY; rw [if_pos h]; simp

set_option maxRecDepth 20000 in
set_option maxHeartbeats 32000000 in
theorem craft_back (a b : VSys) (pa : Option Addr) (ca : Nat) (pc : Option Addr) (cc : Nat) (pa2 : Option Addr) (ca2 : Nat) (pc2 : Option Addr) (cc2 : Nat) (bytes : ByteArray) (m : UInt8) (w : World) (hA : SysIn w a pa ca pc) (hB : SysIn w b pa2 ca2 pc2) (hbs : bytes.size ≤ 9223372036854775807)
    (htab : Lib.TabIs Tryd.prog w "internal/strconv.uint64pow10" .u64 Lib.pow10Tab) :
    Calls Tryd.prog 5 #[SysV a pa ca pc cc, SysV b pa2 ca2 pc2 cc2, .string bytes, .int .u8 (m.toNat : Int)] w fun r w' => r = .returned (.bool true) ∧ Keep (fun _ => False) w w' := by
  have HIT := hid (fun n h0 h1 => it_all n h0 h1 w htab)
  have HTAB := hid (fun wy hk => craft_awake wy (tab_keep htab hk))
  obtain ⟨w1, hw1, hb1, hb2, hs1, hk1⟩ := box2 w (SysC a pa ca pc cc) (SysC b pa2 ca2 pc2 cc2) 27 27
  have HK1 := hid hk1; have HA1 := hid hb1; have HB1 := hid hb2
  have HIA := hid (fun wy (hk : Keep (fun _ => False) w wy) => hA.keep hk)
  have HIB := hid (fun wy (hk : Keep (fun _ => False) w wy) => hB.keep hk)
  have HDC := hid (fun wy => craft_decode bytes wy hbs)
  have HLA := hid (fun wy (hk : Keep (fun _ => False) w wy) => craft_lines a pa ca pc cc wy hA.all hA.none hA.cap (hA.keep hk).aft (hA.keep hk).code (fun x hx => ⟨hA.k x hx, (it_all x.k (hA.k x hx).1 (hA.k x hx).2 w htab).keep hk⟩))
  have HLB := hid (fun wy (hk : Keep (fun _ => False) w wy) => craft_lines b pa2 ca2 pc2 cc2 wy hB.all hB.none hB.cap (hB.keep hk).aft (hB.keep hk).code (fun x hx => ⟨hB.k x hx, (it_all x.k (hB.k x hx).1 (hB.k x hx).2 w htab).keep hk⟩))
  clear hb1 hb2 hs1 hk1 htab hA hB
  have HAO := hid (Nat.le_refl w.heap.size)
  go_enter Tryd.func5, Tryd.ntmps5
  go_upto_region 1 with fail
  rw [← hw1]
  clear hw1
  generalize w.heap.size + 1 = bB at *
  generalize w.heap.size = aB at *
  go_wp2_with fail
  refine (HTAB.out w1 HK1.out).mono ?_
  rintro r w2 ⟨rfl, hk⟩
  have HA2 := hid (hk.get HA1.out id); have HB2 := hid (hk.get HB1.out id); have HK2 := hid (HK1.out.trans hk)
  clear hk HTAB
  have a0 := cell_of HA2.out (i := 0) (by rfl)
  have a1 := cell_of HA2.out (i := 1) (by rfl)
  have a2 := cell_of HA2.out (i := 2) (by rfl)
  have a3 := cell_of HA2.out (i := 3) (by rfl)
  have a4 := cell_of HA2.out (i := 4) (by rfl)
  have a5 := cell_of HA2.out (i := 5) (by rfl)
  go_wp2_with fail
  refine (cr_great a pa ca pc cc w2 (HIA.out w2 HK2.out).aft).mono ?_
  rintro r w3 ⟨rfl, hk⟩
  have HA3 := hid (hk.get HA2.out id); have HB3 := hid (hk.get HB2.out id); have HK3 := hid (HK2.out.trans hk)
  clear hk
  clear a0 a1 a2 a3 a4 a5
  have b0 := cell_of HB3.out (i := 0) (by rfl)
  have b1 := cell_of HB3.out (i := 1) (by rfl)
  have b2 := cell_of HB3.out (i := 2) (by rfl)
  have b3 := cell_of HB3.out (i := 3) (by rfl)
  have b4 := cell_of HB3.out (i := 4) (by rfl)
  have b5 := cell_of HB3.out (i := 5) (by rfl)
  cases ga : greatY a
  rotate_left
  · go_wp2
    go_ret
    exact ⟨rfl, HK3.out⟩
  obtain ⟨_, hal, hcl, _⟩ := greatY_no ga
  have HAL := hid hal; have HCL := hid hcl
  clear ga hal hcl
  go_wp2_with fail
  refine (cr_great b pa2 ca2 pc2 cc2 w3 (HIB.out w3 HK3.out).aft).mono ?_
  rintro r w4 ⟨rfl, hk⟩
  have HA4 := hid (hk.get HA3.out id); have HB4 := hid (hk.get HB3.out id); have HK4 := hid (HK3.out.trans hk)
  clear hk
  clear b0 b1 b2 b3 b4 b5
  cases gb : greatY b
  rotate_left
  · go_wp2
    go_ret
    exact ⟨rfl, HK4.out⟩
  obtain ⟨_, hbl, hbc, _⟩ := greatY_no gb
  have HBL := hid hbl; have HBC := hid hbc
  clear gb hbl hbc
  by_cases hl : 2048 < bytes.size
  · have g1 : decide ((2048 : Int) < (bytes.size : Int)) = true := decide_eq_true (by omega)
    have g2 : decide (2048 < bytes.size) = true := decide_eq_true hl
    go_wp2
    go_ret
    exact ⟨rfl, HK4.out⟩
  have g1 : decide ((2048 : Int) < (bytes.size : Int)) = false := decide_eq_false (by omega)
  have g2 : decide (2048 < bytes.size) = false := decide_eq_false hl
  clear hl
  go_wp2_with fail
  clear g1 g2
  obtain ⟨E, hE⟩ : ∃ E, decE bytes = E := ⟨_, rfl⟩
  have HE : Hid ((E = 0 ∧ goodY bytes = true) ∨ (E = 4 ∧ goodY bytes = false)) := hid (by
    rw [← hE]; unfold decE
    cases goodY bytes
    · exact .inr ⟨rfl, rfl⟩
    · exact .inl ⟨rfl, rfl⟩)
  refine (HDC.out w4).mono ?_
  rintro r w5 ⟨pa5, ca5, pc5, cc5, rfl, hca5, hta5, hvc5, hk⟩
  rw [hE]
  clear hE
  have HCA5 := hid hca5; have HTA5 := hid hta5; have HVC5 := hid hvc5
  have HA5 := hid (hk.get HA4.out id); have HB5 := hid (hk.get HB4.out id); have HK5 := hid (HK4.out.trans hk)
  clear hca5 hta5 hvc5 hk HDC
  obtain ⟨w6, hw6, hb6, hs6, hk6⟩ := box1 w5 (SysC (decY bytes) pa5 ca5 pc5 cc5) 27
  have HX6 := hid hb6
  have HA6 := hid (hk6.get HA5.out id); have HB6 := hid (hk6.get HB5.out id); have HK6 := hid (HK5.out.trans hk6)
  have HTA6 := hid (TP.mono (TP.low HTA5.out (Low.keep0 hk6)) hk6.size); have HVC6 := hid (VP.mono (VP.low HVC5.out (Low.keep0 hk6)) hk6.size)
  clear hb6 hs6 hk6 HTA5 HVC5
  go_upto_region 6 with fail
  rw [← hw6]
  clear hw6
  generalize w5.heap.size = xB at *
  go_upto_if 42 with fail
  go_cut [11, 12] from 42 to 54 (fun _ _ wx => Keep (fun _ => False) w6 wx)
  case first =>
    rcases HE.out with ⟨rfl, hg⟩ | ⟨rfl, hg⟩
    · have hM : MemY (decY bytes) := by rw [(good_enc_of hg).1]; exact mem_parts hg
      obtain ⟨hee, hsc⟩ := back_bytesY hg
      have hse : (!bytes.toList == bytes.toList) = false := by simp
      have HCE := hid (craft_encode (decY bytes) pa5 ca5 pc5 cc5 w6 hM.all hM.none HCA5.out HTA6.out HVC6.out)
      rw [hee, hsc] at HCE
      clear hg hM hee hsc
      have x0 := cell_of HX6.out (i := 0) (by rfl)
      have x1 := cell_of HX6.out (i := 1) (by rfl)
      have x2 := cell_of HX6.out (i := 2) (by rfl)
      have x3 := cell_of HX6.out (i := 3) (by rfl)
      have x4 := cell_of HX6.out (i := 4) (by rfl)
      have x5 := cell_of HX6.out (i := 5) (by rfl)
      go_wp2_with fail
      refine HCE.out.mono ?_
      rintro r w7 ⟨rfl, hk⟩
      have HKX := hid hk
      clear hk
      clear x0 x1 x2 x3 x4 x5
      go_wp2
      go_meet
      case rel => exact HKX.out
    · go_wp2
      go_meet
      case rel => exact Keep.refl _ _
  case rest =>
  have HKC := hid hcut
  clear hcut
  have HA7 := hid (HKC.out.get HA6.out id); have HB7 := hid (HKC.out.get HB6.out id); have HK7 := hid (HK6.out.trans HKC.out)
  clear HKC HX6 HTA6 HVC6 HCA5 HE
  generalize wc = w7 at *
  have a0 := cell_of HA7.out (i := 0) (by rfl)
  have a1 := cell_of HA7.out (i := 1) (by rfl)
  have a2 := cell_of HA7.out (i := 2) (by rfl)
  have a3 := cell_of HA7.out (i := 3) (by rfl)
  have a4 := cell_of HA7.out (i := 4) (by rfl)
  have a5 := cell_of HA7.out (i := 5) (by rfl)
  have HCE := hid (craft_encode a pa ca pc cc w7 (HIA.out w7 HK7.out).all (HIA.out w7 HK7.out).none (HIA.out w7 HK7.out).cap (HIA.out w7 HK7.out).aft (HIA.out w7 HK7.out).code)
  go_wp2_with fail
  refine HCE.out.mono ?_
  rintro r w8 ⟨rfl, hk⟩
  have HA8 := hid (hk.get HA7.out id); have HB8 := hid (hk.get HB7.out id); have HK8 := hid (HK7.out.trans hk)
  clear hk HCE
  clear a0 a1 a2 a3 a4 a5
  have b0 := cell_of HB8.out (i := 0) (by rfl)
  have b1 := cell_of HB8.out (i := 1) (by rfl)
  have b2 := cell_of HB8.out (i := 2) (by rfl)
  have b3 := cell_of HB8.out (i := 3) (by rfl)
  have b4 := cell_of HB8.out (i := 4) (by rfl)
  have b5 := cell_of HB8.out (i := 5) (by rfl)
  have HCE := hid (craft_encode b pa2 ca2 pc2 cc2 w8 (HIB.out w8 HK8.out).all (HIB.out w8 HK8.out).none (HIB.out w8 HK8.out).cap (HIB.out w8 HK8.out).aft (HIB.out w8 HK8.out).code)
  go_wp2_with fail
  refine HCE.out.mono ?_
  rintro r w9 ⟨rfl, hk⟩
  have HA9 := hid (hk.get HA8.out id); have HB9 := hid (hk.get HB8.out id); have HK9 := hid (HK8.out.trans hk)
  clear hk HCE
  clear b0 b1 b2 b3 b4 b5
  by_cases hz : sysC a = 0
  rotate_left
  · have he : encS a = ⟨#[]⟩ := if_neg hz
    have hln : linesY a = [] := if_neg hz
    have HL := hid (HLA.out w9 HK9.out)
    rw [hln] at HL
    rw [he]
    obtain ⟨C, hC⟩ : ∃ C, sysC a = C := ⟨_, rfl⟩
    rw [hC] at hz ⊢
    have g1 : ((C : Int) != 0) = true := by rw [bne_iff_ne]; omega
    have g2 : (C != 0) = true := by rw [bne_iff_ne]; exact hz
    clear he hln hC hz
    have a0 := cell_of HA9.out (i := 0) (by rfl)
    have a1 := cell_of HA9.out (i := 1) (by rfl)
    have a2 := cell_of HA9.out (i := 2) (by rfl)
    have a3 := cell_of HA9.out (i := 3) (by rfl)
    have a4 := cell_of HA9.out (i := 4) (by rfl)
    have a5 := cell_of HA9.out (i := 5) (by rfl)
    go_wp2_with fail
    refine HL.out.mono ?_
    rintro r w10 ⟨la, lc, rfl, lo, hk⟩
    have HK10 := hid (HK9.out.trans hk)
    clear lo hk
    go_wp2
    go_ret
    exact ⟨rfl, HK10.out⟩
  have HM := hid ((HIA.out w (Keep.refl _ w)).mem (sys_oky hz))
  have HLL := hid (lines_len hz)
  rw [hz]
  clear hz
  have HDA := hid (craft_decode (encS a) w9 (by have := encS_size a; omega))
  have HS1 := hid (back_same HM.out)
  have HS2 := hid (back_more HM.out m)
  have HS3 := hid (back_less HM.out)
  have HS4 := hid (encS_size a)
  have HS5 : Hid (1 ≤ (encS a).size) := hid (by
    have e0 : encS a = bsB (encL a) := if_pos (oky_sys HM.out.ok)
    rw [e0, bs_size]; exact encL_pos a)
  have HTW : Hid (∀ (hb : MemY b), ((encS a).toList == (encS b).toList) = eqY a b) := hid (fun hb => back_two HM.out hb)
  generalize encS a = eb at *
  obtain ⟨n, hn⟩ : ∃ n, eb.size = n + 1 := ⟨eb.size - 1, by have := HS5.out; omega⟩
  have HN := hid hn
  rw [show eb.size - 1 = n by omega] at HS3
  clear hn
  go_wp2_with fail
  refine HDA.out.mono ?_
  rintro r w10 ⟨pa6, ca6, pc6, cc6, rfl, hca6, hta6, hvc6, hk⟩
  rw [HS1.out.2] at hca6 hta6 hvc6
  rw [HS1.out.2, HS1.out.1]
  have HA10 := hid (hk.get HA9.out id); have HB10 := hid (hk.get HB9.out id); have HK10 := hid (HK9.out.trans hk)
  obtain ⟨w11, hw11, hb11, hs11, hk11⟩ := box1 w10 (SysC a pa6 ca6 pc6 cc6) 27
  have HX11 := hid hb11
  have HA11 := hid (hk11.get HA10.out id); have HB11 := hid (hk11.get HB10.out id); have HK11 := hid (HK10.out.trans hk11)
  have HTA := hid (TP.mono (TP.low hta6 (Low.keep0 hk11)) hk11.size); have HVC := hid (VP.mono (VP.low hvc6 (Low.keep0 hk11)) hk11.size)
  clear hb11 hs11 hk11 hca6 hta6 hvc6 hk HDA
  go_upto_region 15 with fail
  rw [← hw11]
  clear hw11
  generalize w10.heap.size = yB at *
  have hcv := one_byte w11 m
  obtain ⟨w12, hw12, hb12, hs12, hk12⟩ := box1 w11 #[.int .u8 (m.toNat : Int)] 5
  have HX12 := hid (hk12.get HX11.out id); have HA12 := hid (hk12.get HA11.out id); have HB12 := hid (hk12.get HB11.out id); have HK12 := hid (HK11.out.trans hk12)
  have HF := hid hk12
  clear hb12 hs12 hk12
  have hz1 : ¬ (9223372036854775807 < eb.size + 1) := by have := HS4.out; omega
  have HDM := hid (fun wy => craft_decode (eb ++ ⟨#[m]⟩) wy (by rw [ByteArray.size_append]; have := HS4.out; have h : (⟨#[m]⟩ : ByteArray).size = 1 := rfl; omega))
  generalize hbx : eb ++ ⟨#[m]⟩ = bx at *
  go_wp2_with fail
  rw [← hw12]
  clear hw12 hcv hz1 hbx
  refine (HDM.out w12).mono ?_
  rintro r w13 ⟨pa7, ca7, pc7, cc7, rfl, _, _, _, hk⟩
  rw [HS2.out]
  have HX13 := hid (hk.get HX12.out id); have HA13 := hid (hk.get HA12.out id); have HB13 := hid (hk.get HB12.out id); have HK13 := hid (HK12.out.trans hk); have HF13 := hid (HF.out.trans hk)
  clear hk HDM
  generalize decY bx = yb at *
  obtain ⟨w14, hw14, hb14, hs14, hk14⟩ := box1 w13 (SysC yb pa7 ca7 pc7 cc7) 27
  have HX14 := hid (hk14.get HX13.out id); have HA14 := hid (hk14.get HA13.out id); have HB14 := hid (hk14.get HB13.out id); have HK14 := hid (HK13.out.trans hk14); have HF14 := hid (HF13.out.trans hk14)
  clear hb14 hs14 hk14
  go_upto_region 16 with fail
  rw [← hw14]
  clear hw14
  generalize w13.heap.size = zB at *
  have HDL := hid (fun wy => craft_decode (eb.extract 0 n) wy (by rw [ByteArray.size_extract]; have := HS4.out; omega))
  have hn := HN.out
  have hnb : n ≤ 9223372036854775806 := by have := HS4.out; omega
  have hwn : wrap64 (n : Int) = (n : Int) := by unfold wrap64; omega
  have hin : (0 : Int) ≤ (n : Int) ∧ (n : Int) ≤ (n : Int) + 1 := ⟨by omega, by omega⟩
  go_wp2_with fail
  refine (HDL.out w14).mono ?_
  rintro r w15 ⟨pa8, ca8, pc8, cc8, rfl, _, _, _, hk⟩
  rw [HS3.out]
  have HX15 := hid (hk.get HX14.out id); have HA15 := hid (hk.get HA14.out id); have HB15 := hid (hk.get HB14.out id); have HK15 := hid (HK14.out.trans hk); have HF15 := hid (HF14.out.trans hk)
  clear hk HDL hn hnb hwn hin
  generalize decY (eb.extract 0 n) = yc at *
  generalize eb.extract 0 n = ec at *
  obtain ⟨w16, hw16, hb16, hs16, hk16⟩ := box1 w15 (SysC yc pa8 ca8 pc8 cc8) 27
  have HX16 := hid (hk16.get HX15.out id); have HA16 := hid (hk16.get HA15.out id); have HB16 := hid (hk16.get HB15.out id); have HK16 := hid (HK15.out.trans hk16); have HF16 := hid (HF15.out.trans hk16)
  clear hb16 hs16 hk16
  go_upto_region 17 with fail
  rw [← hw16]
  clear hw16
  generalize w15.heap.size = uB at *
  have HXD : Hid (w16.drew.heap[yB]? = some (.cells (SysC a pa6 ca6 pc6 cc6) 27 (0, 0))) := HX16
  have HAD : Hid (w16.drew.heap[aB]? = some (.cells (SysC a pa ca pc cc) 27 (0, 0))) := HA16
  have HBD : Hid (w16.drew.heap[bB]? = some (.cells (SysC b pa2 ca2 pc2 cc2) 27 (0, 0))) := HB16
  have HKD := hid HK16.out.drew
  have HFD := hid HF16.out.drew
  refine Plan.wp_region_pl [(false, 0, []), (false, 1, []), (false, 2, []), (false, 3, []), (false, 4, []), (true, 5, []), (false, 6, []), (false, 7, []), (false, 8, []), (false, 9, []), (false, 10, []), (false, 11, []), (false, 12, []), (false, 13, []), (false, 14, []), (false, 15, []), (false, 16, []), (false, 17, []), (false, 20, []), (false, 21, []), (false, 22, []), (false, 23, []), (true, 18, [23, 22, 21, 20]), (false, 19, []), (false, 24, []), (false, 25, [])] (by as_aux_lemma => kernel_rfl) (by as_aux_lemma => kernel_rfl) ?_
  generalize w16.drew = wd at *
  have HEQ := hid (craft_equal a a pa6 ca6 pc6 cc6 pa ca pc cc wd (by have := HAL.out; omega) (by have := HCL.out; omega) (TP.mono (TP.low HTA.out (Low.keep0 HFD.out)) HFD.out.size) (VP.mono (VP.low HVC.out (Low.keep0 HFD.out)) HFD.out.size) (HIA.out wd HKD.out).aft (HIA.out wd HKD.out).code)
  rw [(eqY_iff a a).2 rfl] at HEQ
  iterate 3 (refine Plan.pl_st rfl ?_; go_big_quiet_step (fail); refine wpQuiet_nil ?_)
  refine Plan.pl_st rfl ?_
  refine Plan.wpQuiet_load_g rfl 27 _ rfl _ rfl _ (load_sys HXD.out) ?_
  simp only [Act.put, List.setIfInBounds_toArray, List.set_cons_succ, List.set_cons_zero]
  refine wpQuiet_nil ?_
  refine Plan.pl_st rfl ?_
  refine Plan.wpQuiet_load_g rfl 27 _ rfl _ rfl _ (load_sys HAD.out) ?_
  simp only [Act.put, List.setIfInBounds_toArray, List.set_cons_succ, List.set_cons_zero]
  refine wpQuiet_nil ?_
  refine Plan.pl_ac rfl ?_
  go_wp2_with fail
  refine HEQ.out.mono ?_
  rintro r w17 ⟨rfl, hk⟩
  have HA17 := hid (hk.get HAD.out id); have HB17 := hid (hk.get HBD.out id); have HK17 := hid (HKD.out.trans hk)
  clear hk HEQ
  have a5 := cell_of HA17.out (i := 5) (by rfl)
  go_wp2
  refine Plan.plQ_mk Plan.chk_end ?_
  iterate 11 (refine Plan.pl_st rfl ?_; go_big_quiet_step (fail); refine wpQuiet_nil ?_)
  refine Plan.pl_st rfl ?_
  refine Plan.wpQuiet_load_g rfl 27 _ rfl _ rfl _ (load_sys HA17.out) ?_
  simp only [Act.put, List.setIfInBounds_toArray, List.set_cons_succ, List.set_cons_zero]
  refine wpQuiet_nil ?_
  have hcl := HCL.out
  have hwl : wrap64 ((a.code.length : Int) + 2) = (a.code.length : Int) + 2 := by unfold wrap64; omega
  iterate 4 (refine Plan.pl_st rfl ?_; go_big_quiet_step (fail); refine wpQuiet_nil ?_)
  refine Plan.pl_ac rfl ?_
  go_wp2_with fail
  refine (HLA.out w17 HK17.out).mono ?_
  rintro r w18 ⟨la, lc, rfl, lo, hk⟩
  rw [HLL.out]
  have HA18 := hid (hk.get HA17.out id); have HB18 := hid (hk.get HB17.out id); have HK18 := hid (HK17.out.trans hk)
  clear lo hk a5
  have a5 := cell_of HA18.out (i := 5) (by rfl)
  go_wp2
  refine Plan.plQ_mk ?_ ?_
  · iterate 4 (refine Plan.chk_st rfl ?_ ?_; focus (go_big_quiet_step (fail); exact wpQuiet_nil rfl))
    exact Plan.chk_end
  have g1 : ((a.code.length : Int) + 2 != (a.code.length : Int) + 2) = false := by simp
  iterate 3 (refine Plan.pl_st rfl ?_; go_big_quiet_step (fail); refine wpQuiet_nil ?_)
  refine Plan.pl_end ?_
  clear a5 g1 hwl hcl
  have HXD : Hid (w18.drew.heap[aB]? = some (.cells (SysC a pa ca pc cc) 27 (0, 0))) := HA18
  have HYD : Hid (w18.drew.heap[bB]? = some (.cells (SysC b pa2 ca2 pc2 cc2) 27 (0, 0))) := HB18
  have HZD := hid HK18.out.drew
  have HPQ : Hid (∀ Q, eqY a b = Q → True) := hid (fun _ _ => trivial)
  go_upto_region 19 with fail
  by_cases hzb : sysC b = 0
  rotate_left
  · obtain ⟨C, hC⟩ : ∃ C, sysC b = C := ⟨_, rfl⟩
    rw [hC] at hzb ⊢
    have g1 : ((C : Int) != 0) = true := by rw [bne_iff_ne]; omega
    have g2 : (C != 0) = true := by rw [bne_iff_ne]; exact hzb
    clear hC hzb
    refine Plan.wp_region_pl [(false, 0, []), (false, 1, []), (false, 2, []), (false, 3, []), (false, 4, []), (false, 5, []), (false, 6, []), (false, 7, []), (true, 8, [5, 4, 3]), (false, 9, []), (false, 10, []), (false, 11, []), (false, 13, []), (false, 16, []), (false, 17, []), (true, 12, [17, 16, 13]), (true, 14, [17, 16]), (true, 15, [17, 16]), (true, 18, []), (false, 19, []), (false, 20, []), (false, 21, []), (false, 22, [])] (by as_aux_lemma => kernel_rfl) (by as_aux_lemma => kernel_rfl) ?_
    generalize w18.drew = wd at *
    iterate 8 (refine Plan.pl_st rfl ?_; go_big_quiet_step (fail); refine wpQuiet_nil ?_)
    refine Plan.pl_ac rfl ?_
    go_wp2
    refine Plan.plQ_mk ?_ ?_
    · iterate 3 (refine Plan.chk_st rfl ?_ ?_; focus (go_big_quiet_step (fail); exact wpQuiet_nil rfl))
      exact Plan.chk_end
    iterate 6 (refine Plan.pl_st rfl ?_; go_big_quiet_step (fail); refine wpQuiet_nil ?_)
    refine Plan.pl_ac rfl ?_
    go_wp2
    refine Plan.plQ_mk ?_ ?_
    · iterate 3 (refine Plan.chk_st rfl ?_ ?_; focus (go_big_quiet_step (fail); exact wpQuiet_nil rfl))
      exact Plan.chk_end
    refine Plan.pl_ac rfl ?_
    go_wp2
    refine Plan.plQ_mk ?_ ?_
    · iterate 2 (refine Plan.chk_st rfl ?_ ?_; focus (go_big_quiet_step (fail); exact wpQuiet_nil rfl))
      exact Plan.chk_end
    refine Plan.pl_ac rfl ?_
    go_wp2
    refine Plan.plQ_mk ?_ ?_
    · iterate 2 (refine Plan.chk_st rfl ?_ ?_; focus (go_big_quiet_step (fail); exact wpQuiet_nil rfl))
      exact Plan.chk_end
    refine Plan.pl_ac rfl ?_
    go_wp2
    refine Plan.plQ_mk Plan.chk_end ?_
    iterate 4 (refine Plan.pl_st rfl ?_; go_big_quiet_step (fail); refine wpQuiet_nil ?_)
    refine Plan.pl_end ?_
    go_wp2
    go_ret
    exact ⟨rfl, HZD.out⟩
  have HMB := hid ((HIB.out w (Keep.refl _ w)).mem (sys_oky hzb))
  have htw := HTW.out HMB.out
  have HLT := hid (lines_two HM.out HMB.out)
  have HLS : Hid ((linesY a).length ≤ 65536) := hid (by rw [HLL.out]; have := HCL.out; omega)
  rw [hzb]
  clear hzb
  refine Plan.wp_region_pl [(false, 0, []), (false, 1, []), (false, 2, []), (false, 3, []), (false, 4, []), (false, 5, []), (false, 6, []), (false, 7, []), (true, 8, [5, 4, 3]), (false, 9, []), (false, 10, []), (false, 11, []), (false, 13, []), (false, 16, []), (false, 17, []), (true, 12, [17, 16, 13]), (true, 14, [17, 16]), (true, 15, [17, 16]), (true, 18, []), (false, 19, []), (false, 20, []), (false, 21, []), (false, 22, [])] (by as_aux_lemma => kernel_rfl) (by as_aux_lemma => kernel_rfl) ?_
  generalize w18.drew = wd at *
  have HEQ := hid (fun wy (hk : Keep (fun _ => False) w wy) => craft_equal a b pa ca pc cc pa2 ca2 pc2 cc2 wy (by have := HBL.out; omega) (by have := HCL.out; omega) (HIA.out wy hk).aft (HIA.out wy hk).code (HIB.out wy hk).aft (HIB.out wy hk).code)
  generalize eqY a b = Q at *
  iterate 6 (refine Plan.pl_st rfl ?_; go_big_quiet_step (fail); refine wpQuiet_nil ?_)
  refine Plan.pl_st rfl ?_
  refine Plan.wpQuiet_load_g rfl 27 _ rfl _ rfl _ (load_sys HXD.out) ?_
  simp only [Act.put, List.setIfInBounds_toArray, List.set_cons_succ, List.set_cons_zero]
  refine wpQuiet_nil ?_
  refine Plan.pl_st rfl ?_
  refine Plan.wpQuiet_load_g rfl 27 _ rfl _ rfl _ (load_sys HYD.out) ?_
  simp only [Act.put, List.setIfInBounds_toArray, List.set_cons_succ, List.set_cons_zero]
  refine wpQuiet_nil ?_
  refine Plan.pl_ac rfl ?_
  go_wp2_with fail
  refine (HEQ.out wd HZD.out).mono ?_
  rintro r w19 ⟨rfl, hk⟩
  have HA19 := hid (hk.get HXD.out id); have HB19 := hid (hk.get HYD.out id); have HK19 := hid (HZD.out.trans hk)
  clear hk
  go_wp2
  refine Plan.plQ_mk ?_ ?_
  · iterate 3 (refine Plan.chk_st rfl ?_ ?_; focus (go_big_quiet_step (fail); exact wpQuiet_nil rfl))
    exact Plan.chk_end
  have hqq : (Q == Q) = true := by simp
  iterate 2 (refine Plan.pl_st rfl ?_; go_big_quiet_step (fail); refine wpQuiet_nil ?_)
  refine Plan.pl_st rfl ?_
  refine Plan.wpQuiet_load_g rfl 27 _ rfl _ rfl _ (load_sys HA19.out) ?_
  simp only [Act.put, List.setIfInBounds_toArray, List.set_cons_succ, List.set_cons_zero]
  refine wpQuiet_nil ?_
  refine Plan.pl_st rfl ?_
  refine Plan.wpQuiet_load_g rfl 27 _ rfl _ rfl _ (load_sys HB19.out) ?_
  simp only [Act.put, List.setIfInBounds_toArray, List.set_cons_succ, List.set_cons_zero]
  refine wpQuiet_nil ?_
  refine Plan.pl_st rfl ?_
  refine Plan.wpQuiet_load_g rfl 27 _ rfl _ rfl _ (load_sys HA19.out) ?_
  simp only [Act.put, List.setIfInBounds_toArray, List.set_cons_succ, List.set_cons_zero]
  refine wpQuiet_nil ?_
  refine Plan.pl_st rfl ?_
  refine Plan.wpQuiet_load_g rfl 27 _ rfl _ rfl _ (load_sys HB19.out) ?_
  simp only [Act.put, List.setIfInBounds_toArray, List.set_cons_succ, List.set_cons_zero]
  refine wpQuiet_nil ?_
  refine Plan.pl_ac rfl ?_
  go_wp2_with fail
  refine (HLA.out w19 HK19.out).mono ?_
  rintro r w20 ⟨ra, rc, rfl, ro, hk⟩
  have HRA := hid (tp_own ro)
  have HA20 := hid (hk.get HA19.out id); have HB20 := hid (hk.get HB19.out id); have HK20 := hid (HK19.out.trans hk)
  clear ro hk
  go_wp2
  refine Plan.plQ_mk ?_ ?_
  · refine Plan.chk_st rfl ?_ ?_
    focus (refine Plan.wpQuiet_load_g rfl 27 _ rfl _ rfl _ (load_sys HB20.out) ?_; exact wpQuiet_nil rfl)
    refine Plan.chk_st rfl ?_ ?_
    focus (refine Plan.wpQuiet_load_g rfl 27 _ rfl _ rfl _ (load_sys HA20.out) ?_; exact wpQuiet_nil rfl)
    refine Plan.chk_st rfl ?_ ?_
    focus (refine Plan.wpQuiet_load_g rfl 27 _ rfl _ rfl _ (load_sys HB20.out) ?_; exact wpQuiet_nil rfl)
    exact Plan.chk_end
  refine Plan.pl_ac rfl ?_
  go_wp2_with fail
  refine (HLB.out w20 HK20.out).mono ?_
  rintro r w21 ⟨sa, sc, rfl, so, hk⟩
  have HRB := hid (tp_own so)
  have HRA2 := hid (TP.mono (TP.low HRA.out (Low.keep0 hk)) hk.size)
  have HA21 := hid (hk.get HA20.out id); have HB21 := hid (hk.get HB20.out id); have HK21 := hid (HK20.out.trans hk)
  clear so hk HRA
  go_wp2
  refine Plan.plQ_mk ?_ ?_
  · refine Plan.chk_st rfl ?_ ?_
    focus (refine Plan.wpQuiet_load_g rfl 27 _ rfl _ rfl _ (load_sys HB21.out) ?_; exact wpQuiet_nil rfl)
    refine Plan.chk_st rfl ?_ ?_
    focus (refine Plan.wpQuiet_load_g rfl 27 _ rfl _ rfl _ (load_sys HA21.out) ?_; exact wpQuiet_nil rfl)
    exact Plan.chk_end
  refine Plan.pl_ac rfl ?_
  go_wp2_with fail
  refine (cr_texts (linesY a) (linesY b) ra sa rc sc w21 HLS.out HRA2.out HRB.out).mono ?_
  rw [HLT.out]
  rintro r w22 ⟨rfl, hk⟩
  have HA22 := hid (hk.get HA21.out id); have HB22 := hid (hk.get HB21.out id); have HK22 := hid (HK21.out.trans hk)
  clear hk
  go_wp2
  refine Plan.plQ_mk ?_ ?_
  · refine Plan.chk_st rfl ?_ ?_
    focus (refine Plan.wpQuiet_load_g rfl 27 _ rfl _ rfl _ (load_sys HB22.out) ?_; exact wpQuiet_nil rfl)
    refine Plan.chk_st rfl ?_ ?_
    focus (refine Plan.wpQuiet_load_g rfl 27 _ rfl _ rfl _ (load_sys HA22.out) ?_; exact wpQuiet_nil rfl)
    exact Plan.chk_end
  refine Plan.pl_ac rfl ?_
  go_wp2_with fail
  refine (HEQ.out w22 HK22.out).mono ?_
  rintro r w23 ⟨rfl, hk⟩
  have HK23 := hid (HK22.out.trans hk)
  clear hk
  go_wp2
  refine Plan.plQ_mk Plan.chk_end ?_
  iterate 4 (refine Plan.pl_st rfl ?_; go_big_quiet_step (fail); refine wpQuiet_nil ?_)
  refine Plan.pl_end ?_
  go_wp2
  go_ret
  exact ⟨rfl, HK23.out⟩
end Go.Proofs.YtbnhdmalkmcalaaDoor

namespace Go.Proofs.YtbnhdmalkmcalaaDoor
open Go.ChangeShapes Go.WideShapes Go.ChangeAt Go.RowKit Go.Proofs.Heap Go.Proofs.Sch

section
variable {H : Type} {enc : TypeId × Value → H} {W : World}

theorem trod_struct5C {P : Program} {w : World} {base : Nat} {spare : Nat → Bool} {held : Bool} {t : TypeId} {f0 f1 f2 f3 f4 : Field} {fuel : Nat} {cs : List Value} {x : DataW H × List MemPlace} (ht : P.underlying t = some (.struct #[f0, f1, f2, f3, f4])) (h : DataW.trod enc P w base spare held fuel t cs = some x) :
    ∃ y0 y1 y2 y3 y4 n, DataW.trod enc P w base spare held n f0.type ((cs.drop f0.offset).take (P.cellsOf f0.type)) = some y0 ∧
      DataW.trod enc P w base spare held n f1.type ((cs.drop f1.offset).take (P.cellsOf f1.type)) = some y1 ∧ DataW.trod enc P w base spare held n f2.type ((cs.drop f2.offset).take (P.cellsOf f2.type)) = some y2 ∧
      DataW.trod enc P w base spare held n f3.type ((cs.drop f3.offset).take (P.cellsOf f3.type)) = some y3 ∧ DataW.trod enc P w base spare held n f4.type ((cs.drop f4.offset).take (P.cellsOf f4.type)) = some y4 := by
  obtain ⟨xs, n, _, rfl, hl, hlen, hf⟩ := DataW.trod_struct ht h
  match xs, hlen with
  | [y0, y1, y2, y3, y4], _ => exact ⟨y0, y1, y2, y3, y4, n, by simpa using hf 0 f0 rfl, by simpa using hf 1 f1 rfl, by simpa using hf 2 f2 rfl, by simpa using hf 3 f3 rfl, by simpa using hf 4 f4 rfl⟩
theorem trod_struct6C {P : Program} {w : World} {base : Nat} {spare : Nat → Bool} {held : Bool} {t : TypeId} {f0 f1 f2 f3 f4 f5 : Field} {fuel : Nat} {cs : List Value} {x : DataW H × List MemPlace} (ht : P.underlying t = some (.struct #[f0, f1, f2, f3, f4, f5])) (h : DataW.trod enc P w base spare held fuel t cs = some x) :
    ∃ y0 y1 y2 y3 y4 y5 n, DataW.trod enc P w base spare held n f0.type ((cs.drop f0.offset).take (P.cellsOf f0.type)) = some y0 ∧
      DataW.trod enc P w base spare held n f1.type ((cs.drop f1.offset).take (P.cellsOf f1.type)) = some y1 ∧ DataW.trod enc P w base spare held n f2.type ((cs.drop f2.offset).take (P.cellsOf f2.type)) = some y2 ∧
      DataW.trod enc P w base spare held n f3.type ((cs.drop f3.offset).take (P.cellsOf f3.type)) = some y3 ∧ DataW.trod enc P w base spare held n f4.type ((cs.drop f4.offset).take (P.cellsOf f4.type)) = some y4 ∧ DataW.trod enc P w base spare held n f5.type ((cs.drop f5.offset).take (P.cellsOf f5.type)) = some y5 := by
  obtain ⟨xs, n, _, rfl, hl, hlen, hf⟩ := DataW.trod_struct ht h
  match xs, hlen with
  | [y0, y1, y2, y3, y4, y5], _ => exact ⟨y0, y1, y2, y3, y4, y5, n, by simpa using hf 0 f0 rfl, by simpa using hf 1 f1 rfl, by simpa using hf 2 f2 rfl, by simpa using hf 3 f3 rfl, by simpa using hf 4 f4 rfl, by simpa using hf 5 f5 rfl⟩
theorem wf_i64C {K : Int} (h : (Lit.int .i64 K).wf = true) : IB K := by
  have h : IntKind.i64.min ≤ K ∧ K ≤ IntKind.i64.max := by simpa [Lit.wf] using h
  have h1 : IntKind.i64.min = -9223372036854775808 := by decide
  have h2 : IntKind.i64.max = 9223372036854775807 := by decide
  unfold IB; omega
theorem wf_u32C {K : Int} (h : (Lit.int .u32 K).wf = true) : 0 ≤ K ∧ K < 4294967296 := by
  have h : IntKind.u32.min ≤ K ∧ K ≤ IntKind.u32.max := by simpa [Lit.wf] using h
  have h1 : IntKind.u32.min = 0 := by decide
  have h2 : IntKind.u32.max = 4294967295 := by decide
  omega
/-- A byte that a law is handed. -/
theorem wf_u8C {K : Int} (h : (Lit.int .u8 K).wf = true) : ∃ m : UInt8, K = (m.toNat : Int) := by
  have h : IntKind.u8.min ≤ K ∧ K ≤ IntKind.u8.max := by simpa [Lit.wf] using h
  have h1 : IntKind.u8.min = 0 := by decide
  have h2 : IntKind.u8.max = 255 := by decide
  refine ⟨UInt8.ofNat K.toNat, ?_⟩
  rw [UInt8.toNat_ofNat']
  omega
def VOpAtI (w : World) (b o : Nat) (x : VOp) : Prop := VOpAt w b o x ∧ IB x.k
set_option maxRecDepth 100000 in
theorem open_opC (a : Addr) (n : Nat) (cs : List Value) (D : DataW H × List MemPlace) (hc : W.cells? 0 a 5 = some cs) (h : DataW.trod enc Tryd.prog W 0 (fun _ => true) true n 50 cs = some D) :
    a.spot = none ∧ a.block < W.heap.size ∧ ∃ x : VOp, VOpAtI W a.block a.off x := by
  have hs_int : Tryd.prog.cellsOf 3 = 1 := by kernel_rfl
  obtain ⟨_, hlen, hat⟩ := World.cells?_some hc
  obtain ⟨y0, y1, y2, y3, y4, n', t0, t1, t2, t3, t4⟩ := trod_struct5C Tryd.underlying50 h
  match cs, hlen with
  | [u0, u1, u2, u3, u4], _ =>
    have g0 := hat 0 (by omega)
    have g1 := hat 1 (by omega)
    have g2 := hat 2 (by omega)
    have g3 := hat 3 (by omega)
    have g4 := hat 4 (by omega)
    simp only [hs_int, List.drop, List.take] at t0 t1 t2 t3 t4
    obtain ⟨K0, eK0, _, _⟩ := DataW.trod_int Tryd.underlying3 t0
    obtain ⟨K1, eK1, _, _⟩ := DataW.trod_int Tryd.underlying3 t1
    obtain ⟨K2, eK2, _, _⟩ := DataW.trod_int Tryd.underlying3 t2
    obtain ⟨K3, eK3, _, _⟩ := DataW.trod_int Tryd.underlying3 t3
    obtain ⟨K4, eK4, _, wf4⟩ := DataW.trod_int Tryd.underlying3 t4
    simp at eK0 eK1 eK2 eK3 eK4
    subst eK0; subst eK1; subst eK2; subst eK3; subst eK4
    obtain ⟨h1, h2⟩ := spot_of g0
    obtain ⟨b, off, spot⟩ := a
    simp only at h1 h2
    subst h1
    rw [addr_add] at g0 g1 g2 g3 g4
    exact ⟨rfl, h2, ⟨K0, K1, K2, K3, K4⟩, ⟨g0, g1, g2, g3, g4⟩, wf_i64C wf4⟩
set_option maxRecDepth 100000 in
theorem open_opsC {fuel : Nat} {cs : List Value} {x : DataW H × List MemPlace} (h : DataW.trod enc Tryd.prog W 0 (fun _ => true) true fuel 25 cs = some x) :
    ∃ (p : Option Addr) (c : Nat) (l : List VOp), cs = [.slice p l.length c] ∧ l.length ≤ c ∧ VP W W.heap.size p l ∧ ∀ x ∈ l, IB x.k := by
  obtain ⟨p, c, l, h1, h2, h3⟩ := open_row Tryd.underlying25 (by kernel_rfl) VOpAtI (fun a n cs D hc h => open_opC a n cs D hc h) h
  refine ⟨p, c, l, h1, h2, RowP.imp h3 (Nat.le_refl _) fun _ _ _ _ hx => hx.1, fun x hx => ?_⟩
  rcases h3 with rfl | ⟨b, off, _, _, hc⟩
  · simp at hx
  · obtain ⟨i, hi, rfl⟩ := List.getElem_of_mem hx
    exact (hc i _ (List.getElem?_eq_getElem hi)).2
set_option maxRecDepth 100000 in
theorem open_strC (a : Addr) (n : Nat) (cs : List Value) (D : DataW H × List MemPlace) (hc : W.cells? 0 a 1 = some cs) (h : DataW.trod enc Tryd.prog W 0 (fun _ => true) true n 9 cs = some D) :
    a.spot = none ∧ a.block < W.heap.size ∧ ∃ x : ByteArray, StrAt W a.block a.off x := by
  obtain ⟨_, hlen, hat⟩ := World.cells?_some hc
  match cs, hlen with
  | [u0], _ =>
    have g0 := hat 0 (by omega)
    obtain ⟨K0, eK0, _, _⟩ := DataW.trod_string Tryd.underlying9 h
    simp at eK0
    subst eK0
    obtain ⟨h1, h2⟩ := spot_of g0
    obtain ⟨b, off, spot⟩ := a
    simp only at h1 h2
    subst h1
    rw [addr_add] at g0
    exact ⟨rfl, h2, K0, g0⟩
set_option maxRecDepth 100000 in
theorem open_strsC {fuel : Nat} {cs : List Value} {x : DataW H × List MemPlace} (h : DataW.trod enc Tryd.prog W 0 (fun _ => true) true fuel 22 cs = some x) :
    ∃ (p : Option Addr) (c : Nat) (l : List ByteArray), cs = [.slice p l.length c] ∧ l.length ≤ c ∧ TP W W.heap.size p l :=
  open_row Tryd.underlying22 (by kernel_rfl) StrAt (fun a n cs D hc h => open_strC a n cs D hc h) h

set_option maxRecDepth 100000 in
/-- A system that a law is handed. -/
theorem open_system_of {v : Value} {r : Reach} {b : Nat} (hv : Value.okWide Tryd.prog W r b 27 v) {fuel : Nat} {x : DataW H × List MemPlace} (h : DataW.trod enc Tryd.prog W 0 (fun _ => true) true fuel 27 v.cells.toList = some x) :
    ∃ (s : VSys) (pa : Option Addr) (ca : Nat) (pc : Option Addr) (cc : Nat), v = SysV s pa ca pc cc ∧ SysIn W s pa ca pc := by
  have hs_int : Tryd.prog.cellsOf 3 = 1 := by kernel_rfl
  have hs_string : Tryd.prog.cellsOf 9 = 1 := by kernel_rfl
  have hs_strs : Tryd.prog.cellsOf 22 = 1 := by kernel_rfl
  have hs_sig : Tryd.prog.cellsOf 24 = 1 := by kernel_rfl
  have hs_ops : Tryd.prog.cellsOf 25 = 1 := by kernel_rfl
  have hs : Tryd.prog.cellsOf 27 = 6 := by kernel_rfl
  unfold Value.okWide at hv
  rw [Tryd.underlying27] at hv
  obtain ⟨cs, rfl, hsz, _⟩ := hv
  rw [hs] at hsz
  obtain ⟨⟨u0, u1, u2, u3, u4, u5, rfl⟩⟩ : Nonempty (∃ u0 u1 u2 u3 u4 u5, cs = #[u0, u1, u2, u3, u4, u5]) := by
    obtain ⟨l⟩ := cs
    match l, hsz with
    | [u0, u1, u2, u3, u4, u5], _ => exact ⟨u0, u1, u2, u3, u4, u5, rfl⟩
  obtain ⟨y0, y1, y2, y3, y4, y5, n', t0, t1, t2, t3, t4, t5⟩ := trod_struct6C Tryd.underlying27 h
  simp only [Value.cells, hs_int, hs_string, hs_strs, hs_sig, hs_ops, List.drop, List.take] at t0 t1 t2 t3 t4 t5
  obtain ⟨K0, eK0, _, _⟩ := DataW.trod_string Tryd.underlying9 t0
  obtain ⟨K1, eK1, _, _⟩ := DataW.trod_int Tryd.underlying3 t1
  obtain ⟨p2, c2, l2, eK2, hlc2, hfp2⟩ := open_strsC t2
  obtain ⟨K3, eK3, _, wf3⟩ := DataW.trod_int Tryd.underlying24 t3
  obtain ⟨K4, eK4, _, wf4⟩ := DataW.trod_int Tryd.underlying24 t4
  obtain ⟨p5, c5, l5, eK5, hlc5, hfp5, hb5⟩ := open_opsC t5
  simp at eK0 eK1 eK2 eK3 eK4 eK5
  subst eK0; subst eK1; subst eK2; subst eK3; subst eK4; subst eK5
  obtain ⟨b3, b3'⟩ := wf_u32C wf3
  obtain ⟨b4, b4'⟩ := wf_u32C wf4
  obtain ⟨N3, rfl⟩ := Int.eq_ofNat_of_zero_le b3
  obtain ⟨N4, rfl⟩ := Int.eq_ofNat_of_zero_le b4
  exact ⟨⟨K0, K1, l2, N3, N4, l5⟩, p2, c2, p5, c5, rfl, by simp only; omega, by simp only; omega, hlc2, hfp2, hfp5, hb5⟩
set_option maxRecDepth 100000 in
/-- An instruction that a law is handed. -/
theorem open_op_of {v : Value} {r : Reach} {b : Nat} (hv : Value.okWide Tryd.prog W r b 50 v) {fuel : Nat} {x : DataW H × List MemPlace} (h : DataW.trod enc Tryd.prog W 0 (fun _ => true) true fuel 50 v.cells.toList = some x) :
    ∃ y : VOp, v = OV y := by
  have hs_int : Tryd.prog.cellsOf 3 = 1 := by kernel_rfl
  have hs : Tryd.prog.cellsOf 50 = 5 := by kernel_rfl
  unfold Value.okWide at hv
  rw [Tryd.underlying50] at hv
  obtain ⟨cs, rfl, hsz, _⟩ := hv
  rw [hs] at hsz
  obtain ⟨⟨u0, u1, u2, u3, u4, rfl⟩⟩ : Nonempty (∃ u0 u1 u2 u3 u4, cs = #[u0, u1, u2, u3, u4]) := by
    obtain ⟨l⟩ := cs
    match l, hsz with
    | [u0, u1, u2, u3, u4], _ => exact ⟨u0, u1, u2, u3, u4, rfl⟩
  obtain ⟨y0, y1, y2, y3, y4, n', t0, t1, t2, t3, t4⟩ := trod_struct5C Tryd.underlying50 h
  simp only [Value.cells, hs_int, List.drop, List.take] at t0 t1 t2 t3 t4
  obtain ⟨K0, eK0, _, _⟩ := DataW.trod_int Tryd.underlying3 t0
  obtain ⟨K1, eK1, _, _⟩ := DataW.trod_int Tryd.underlying3 t1
  obtain ⟨K2, eK2, _, _⟩ := DataW.trod_int Tryd.underlying3 t2
  obtain ⟨K3, eK3, _, _⟩ := DataW.trod_int Tryd.underlying3 t3
  obtain ⟨K4, eK4, _, _⟩ := DataW.trod_int Tryd.underlying3 t4
  simp at eK0 eK1 eK2 eK3 eK4
  subst eK0; subst eK1; subst eK2; subst eK3; subst eK4
  exact ⟨⟨K0, K1, K2, K3, K4⟩, rfl⟩
end
end Go.Proofs.YtbnhdmalkmcalaaDoor

namespace Go.Proofs.YtbnhdmalkmcalaaDoor
open Go.RowKit Go.Proofs.Heap Go.Proofs.Sch

theorem tab_of_back {W : World} (h : laidMetH Tryd.prog Rows.craftBackRow.laid W) : Lib.TabIs Tryd.prog W "internal/strconv.uint64pow10" .u64 Lib.pow10Tab := by
  have h1 := laidMetH.filter (fun x => x.1 == "internal/strconv.uint64pow10") h
  have h2 : laidMetH Tryd.prog [("internal/strconv.uint64pow10", Lib.tabData .u64 Lib.pow10Tab)] W := h1
  rw [MakeChecks.laidMetH_plain _ _ _ (by kernel_rfl)] at h2
  exact Lib.tabIs_of_head (g := 3) (by kernel_rfl) (by kernel_rfl) Tryd.underlying192 Tryd.underlying63 (by kernel_rfl) (by kernel_rfl) h2
theorem back_true (a : VSys) (pa : Option Addr) (ca : Nat) (pc : Option Addr) (cc : Nat) (b : VSys) (pa2 : Option Addr) (ca2 : Nat) (pc2 : Option Addr) (cc2 : Nat) (bytes : ByteArray) (m : UInt8) (w : World) (hA : SysIn w a pa ca pc) (hB : SysIn w b pa2 ca2 pc2) (hbs : bytes.size ≤ maxLen)
    (htab : Lib.TabIs Tryd.prog w "internal/strconv.uint64pow10" .u64 Lib.pow10Tab) :
    Calls Tryd.prog 5 #[SysV a pa ca pc cc, SysV b pa2 ca2 pc2 cc2, .string bytes, .int .u8 (m.toNat : Int)] w fun e w' => e = .returned (.bool true) ∧ Below w.heap.size w w' :=
  (craft_back a b pa ca pc cc pa2 ca2 pc2 cc2 bytes m w hA hB (by unfold maxLen at hbs; omega) htab).mono fun _ _ h => ⟨h.1, h.2.below⟩
end Go.Proofs.YtbnhdmalkmcalaaDoor
