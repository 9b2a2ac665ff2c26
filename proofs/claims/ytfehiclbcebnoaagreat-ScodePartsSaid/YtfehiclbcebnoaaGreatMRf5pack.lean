/- What is proved: what the reference's Pack of fields and numbers answers: the row that the program's does. -/
import Derived.Test.YtfehiclbcebnoaaGreatMRef01c
import Derived.Deep.Cut
import Derived.Deep.CutRange
import Derived.Deep.CutBlock
import Derived.Test.YtfehiclbcebnoaaGreatMScDec2
import Derived.Test.YtfehiclbcebnoaaGreatMFound
import Derived.Test.YtfehiclbcebnoaaGreatMRef05
namespace Go.Proofs.YtfehiclbcebnoaaGreat
open Go.RowKit Go.Proofs.Heap Go.Proofs.Sch Go.Proofs.Wide

theorem made_bytes (n : Nat) : madeCells #[Value.int .u8 0] n = ((List.replicate n (0 : UInt8)).map byteV).toArray := by
  apply Array.ext
  · simp [madeCells]
  · intro i h1 h2
    simp [madeCells, byteV, Nat.mod_one]
theorem layC_size {fs : List Fld} (h : layC fs = 0) : pSize fs ≤ 256 := by
  unfold layC at h
  by_cases c1 : 8 < fs.length
  · rw [if_pos c1] at h; omega
  · rw [if_neg c1] at h
    by_cases c2 : ∀ f ∈ fs, okF f
    · rw [if_pos c2] at h
      by_cases c3 : 256 < pSize fs
      · rw [if_pos c3] at h; omega
      · omega
    · rw [if_neg c2] at h; omega

set_option maxRecDepth 20000 in
set_option maxHeartbeats 8000000 in
theorem r_pack (fs : List Fld) (p : Option Addr) (cap : Nat) (vs : List WI) (q : Option Addr) (qc : Nat) (w : World) (hl : layC fs = 0) (hn : vs.length = sumN fs) (hfit : ∀ x ∈ vs, x.fit) (hf : FP w w.heap.size p fs) (hv : XP w w.heap.size q vs) :
    Calls Tryz.prog 24 #[.slice p fs.length cap, .slice q vs.length qc] w fun r w' => r = .returned (.string ⟨(packL fs vs).toArray⟩) ∧ Keep (fun _ => False) w w' := by
  obtain ⟨i0, hi0, hz0, hz1, hz2⟩ := info_parts' info_u8
  have HOK := hid (layC_zero hl).2
  have HV := hid hv; have HX := hid hfit
  have HF := hid hf
  have HNX := hid (fun (i : Nat) (e : Int × Nat) (v : WI) (he : (eRun fs)[i]? = some e) (hv : vs[i]? = some v) => rowN_next he hv)
  have HLN := hid (rowN_len vs HOK.out)
  have HIN := hid (fun (i : Nat) (e : Int × Nat) (he : (eRun fs)[i]? = some e) => eRun_in HOK.out he)
  have HEND := hid (rowL_eq HOK.out hn)
  have H0 : Hid (rowN fs vs 0 = List.replicate (pSize fs) 0) := hid (by unfold rowN; rw [List.take_zero]; rfl)
  have HROW : Hid (rowL fs vs = rowN fs vs vs.length) := hid (by unfold rowL; rw [eRun_len, hn])
  have HS6 := hid (layC_size hl)
  have HEV : Hid ((eRun fs).length = vs.length) := hid (by rw [eRun_len, hn])
  have HS8 := hid (sumN_le fs (layC_zero hl).2)
  have HF8 := hid (layC_zero hl).1
  have hl64 : vs.length ≤ 65536 := by have := HS8.out; have := HF8.out; omega
  have HL0 := hid hl
  clear hv hfit hf hl hn
  go_enter Tryz.func24, Tryz.ntmps24
  go_wp2_with fail
  refine (r_lay fs p cap _ HF.out).mono ?_
  rintro r w1 ⟨hr, hk1⟩
  have HK1 := hid hk1
  clear hk1
  rcases hr with ⟨hne, rfl⟩ | ⟨_, xp, xc, xq, xd, rfl, hly⟩
  · exact absurd HL0.out hne
  have HLY := hid hly
  rw [HEV.out]
  clear hly
  generalize hsz : pSize fs = sz at *
  have hmk : ∀ w, (Instr.makeSlice 59 (.int .i64 (sz : Int)) (.int .i64 (sz : Int))).run Tryz.prog w = .ok (.slice (some ⟨w.heap.size, 0, none⟩) sz sz) (w.alloc (.cells ((List.replicate sz (0 : UInt8)).map byteV).toArray 5)) := by
    intro w
    have := run_make (P := Tryz.prog) w 59 5 i0 (.int .u8 0) Tryz.underlying59 hi0 hz0 .i64 .i64 (sz : Int) (sz : Int) (by omega) (by omega) (by rw [hz2]; have := HS6.out; omega) (by have := HS6.out; omega)
    rw [this]
    have e : (sz : Int).toNat = sz := by omega
    rw [e, hz1, Nat.mul_one]
    show Result.ok _ (w.alloc (Obj.cells (madeCells #[Value.int .u8 0] sz) _)) = _
    rw [made_bytes]
  rw [← H0.out] at hmk
  have hk2 := (Keep.refl (fun _ => False) w1).alloc (.cells ((rowN fs vs 0).map byteV).toArray 5)
  have hb2 := heap_alloc_new w1 (.cells ((rowN fs vs 0).map byteV).toArray 5)
  have HK2 := hid hk2; have HB2 := hid hb2
  clear hk2 hb2
  generalize rowN fs vs = RN at *
  go_upto_region 3 with fail
  generalize hw2 : w1.alloc (.cells ((RN 0).map byteV).toArray 5) = w2 at *
  generalize hgb : w1.heap.size = gb at *
  have HGB := hid hgb
  clear hmk hw2 hgb
  go_wp2_with fail
  go_loopw [10, 11, 12] (fun i _ _ wr => ∃ k : Nat, k ≤ vs.length ∧ i = iV k ∧ wr.heap[gb]? = some (.cells ((RN k).map byteV).toArray 5 (0, 0)) ∧ Keep (fun _ => False) w1 wr) (fun i _ _ _ => vs.length + 1 - (intOf i).toNat)
  case atStart => exact ⟨0, Nat.zero_le _, rfl, HB2.out, HK2.out⟩
  case round =>
    obtain ⟨k, hk, rfl, hbr, hkr⟩ := hrel
    have HBR := hid hbr; have HKR := hid hkr
    clear hbr hkr
    by_cases hlt : k < vs.length
    · obtain ⟨e, he⟩ : ∃ e, (eRun fs)[k]? = some e := ⟨(eRun fs)[k]'(by rw [HEV.out]; exact hlt), by rw [List.getElem?_eq_getElem]⟩
      obtain ⟨v, hv⟩ : ∃ v, vs[k]? = some v := ⟨vs[k], by simp [hlt]⟩
      have HXF := hid (HX.out v (List.mem_of_getElem? hv))
      have hnx := HNX.out k e v he hv
      have hin2 := HIN.out k e he
      have hly := HLY.out.keep0 HKR.out.drew
      obtain ⟨g, rfl⟩ := owns_some hly.o6 (by rw [HEV.out]; omega)
      have hkd := (ly_kind hly he).1
      have HAT := hid (fun wy (h : Keep (fun _ => False) w1 wy) => (ly_kind (HLY.out.keep0 h) he).2)
      obtain ⟨b, off, rfl, hb, c0, c1, c2⟩ := XP.at (XP.low HV.out (Low.keep0 (HK1.out.trans HKR.out.drew))) hv
      have hin : (0 : Int) ≤ (k : Int) ∧ (k : Int) < (vs.length : Int) := ⟨by omega, by omega⟩
      clear he hv hly hb
      obtain ⟨kd, ea⟩ := e
      obtain ⟨vn, vh, vl⟩ := v
      simp only at hkd c0 c1 c2 hnx hin2 HAT
      have HNX1 := hid hnx
      have HIN1 : Hid (1 ≤ szN kd ∧ ea + szN kd ≤ sz ∧ szN kd ≤ 8) := hid ⟨hin2.2.1, hin2.2.2, sz_le kd⟩
      have HPL := hid (putL_len kd ⟨vn, vh, vl⟩)
      clear hnx hin2
      go_wp2_with fail
      refine Plan.wp_region_pl [(false, 0, []), (false, 1, []), (false, 2, []), (false, 3, []), (false, 4, []), (false, 5, []), (false, 6, []), (false, 7, []), (false, 8, []), (true, 9, []), (false, 10, [])] (by kernel_rfl) (by kernel_rfl) ?_
      iterate 9 (refine Plan.pl_st rfl ?_; go_big_quiet_step (fail); refine wpQuiet_nil ?_)
      refine Plan.pl_ac rfl ?_
      go_wp2_with fail
      refine (r_put kd ⟨vn, vh, vl⟩ _ HXF.out).mono ?_
      rintro r w5 ⟨rfl, hk5⟩
      have HK5 := hid (HKR.out.drew.trans hk5)
      have HB5 := hid (hk5.get HBR.out id)
      clear hk5 hkd c0 c1 c2
      generalize hpl : putL kd ⟨vn, vh, vl⟩ = pl at *
      generalize hzz : szN kd = zz at *
      have HPLL := hid hpl
      go_wp2
      refine Plan.plQ_mk Plan.chk_end ?_
      iterate 1 (refine Plan.pl_st rfl ?_; go_big_quiet_step (fail); refine wpQuiet_nil ?_)
      refine Plan.pl_end ?_
      obtain ⟨ps, hps⟩ : ∃ ps : ByteArray, (⟨pl.toArray⟩ : ByteArray) = ps := ⟨_, rfl⟩
      have HPS : Hid (ps.size = zz) := hid (by rw [← hps, ← HPL.out]; exact List.size_toArray ..)
      have HPC : Hid (∀ (j : Nat) (h : j < ps.size), pl[j]? = some (ps[j]'h)) := hid (by
        subst hps
        intro j h
        have hj : j < pl.length := by rw [← List.size_toArray]; exact h
        rw [List.getElem?_eq_getElem hj]
        rfl)
      rw [hps]
      clear hps hpl
      have hz8 : zz ≤ 8 := HIN1.out.2.2
      have hez : ea + zz ≤ sz := HIN1.out.2.1
      have hs256 := HS6.out
      clear hzz hin
      go_wp2_with fail
      go_loopw [12] (fun i wr => ∃ j : Nat, j ≤ zz ∧ i = iV j ∧ wr.heap[gb]? = some (.cells ((wrE (RN k) ea (pl.take j)).map byteV).toArray 5 (0, 0)) ∧ Keep (fun _ => False) w1 wr) (fun i _ => zz + 1 - (intOf i).toNat)
      case atStart => exact ⟨0, Nat.zero_le _, rfl, by rw [List.take_zero, wrE_nil]; exact HB5.out, HK5.out⟩
      case round =>
        obtain ⟨j, hj, rfl, hbj, hkj⟩ := hrel
        have HBJ := hid hbj; have HKJ := hid hkj
        clear hbj hkj
        have hpz := HPS.out
        by_cases hjt : j < zz
        · have g1 : decide ((j : Int) < (zz : Int)) = true := decide_eq_true (by omega)
          have g2 : decide (j < zz) = true := decide_eq_true hjt
          have hjs : j < ps.size := by omega
          have hpc := HPC.out j hjs
          have HNE := hid (wrE_next (b := RN k) (a := ea) hpc (by rw [HPL.out, HLN.out]; exact hez))
          have hat := HAT.out _ HKJ.out.drew
          have hin : (0 : Int) ≤ (k : Int) ∧ (k : Int) < (vs.length : Int) := ⟨by omega, by omega⟩
          have hin2 : (0 : Int) ≤ (j : Int) ∧ (j : Int) < (ps.size : Int) := ⟨by omega, by omega⟩
          have hin3 : (0 : Int) ≤ (ea : Int) + (j : Int) ∧ (ea : Int) + (j : Int) < (sz : Int) := ⟨by omega, by omega⟩
          have hto : ((ea : Int) + (j : Int)).toNat = ea + j := by omega
          have hlen : (wrE (RN k) ea (pl.take j)).length = sz := by rw [wrE_len (by rw [List.length_take, HLN.out, HPL.out]; omega), HLN.out]
          obtain ⟨old, hold⟩ : ∃ old, (wrE (RN k) ea (pl.take j))[ea + j]? = some old := ⟨(wrE (RN k) ea (pl.take j))[ea + j]'(by omega), by rw [List.getElem?_eq_getElem]⟩
          have d0 : wr.drew.cell? ⟨gb, ea + j, none⟩ = some (byteV old) := cell_of (w := wr.drew) HBJ.out (by rw [List.getElem?_toArray, List.getElem?_map, hold]; rfl)
          have f0 : wr.drew.frozen? ⟨gb, ea + j, none⟩ = false := free_of (w := wr.drew) HBJ.out _
          have hsame := hsc_same (w := wr.drew) HBJ.out (ea + j) (.int .u8 ((ps[j]'hjs).toNat : Int))
          have HSAME := hid hsame
          clear hlen hold hsame hpc
          go_wp2_with fail
          refine Plan.wp_region_pl [(false, 0, []), (false, 1, []), (false, 2, []), (false, 3, []), (false, 4, []), (false, 5, []), (false, 6, []), (false, 7, []), (false, 8, []), (false, 9, []), (false, 10, []), (false, 11, []), (true, 12, [])] (by kernel_rfl) (by kernel_rfl) ?_
          iterate 12 (refine Plan.pl_st rfl ?_; go_big_quiet_step (fail); refine wpQuiet_nil ?_)
          refine Plan.pl_ac rfl ?_
          go_wp2
          refine Plan.plQ_mk Plan.chk_end ?_
          refine Plan.pl_end ?_
          go_wp2
          go_roundw
          case rel =>
            refine ⟨j + 1, by omega, by go_num, ?_, ?_⟩
            · rw [HNE.out, List.map_set, ← List.setIfInBounds_toArray]
              exact HSAME.out
            · exact Keep.setCell_new HKJ.out.drew (Nat.le_of_eq HGB.out) _
          case measure => simp [intOf]; omega
        · obtain rfl : j = zz := by omega
          have g1 : decide ((j : Int) < (j : Int)) = false := decide_eq_false (by omega)
          have g2 : decide (j < j) = false := decide_eq_false (by omega)
          go_wp2
          go_roundw
          case rel => exact ⟨k + 1, by omega, by go_num, by have h := HBJ.out; rw [HNX1.out]; rwa [← HPL.out, List.take_length] at h, HKJ.out⟩
          case measure => simp [intOf]; omega
    · obtain rfl : k = vs.length := by omega
      have g1 : decide ((vs.length : Int) < (vs.length : Int)) = false := decide_eq_false (by omega)
      have hrun : (convert 59 9 (.slice (some ⟨gb, 0, none⟩) sz sz)).run Tryz.prog wr = .ok (.string ⟨(RN vs.length).toArray⟩) wr := by
        refine run_bytes_string wr _ _ 5 (by kernel_rfl) (by kernel_rfl) (by kernel_rfl) gb 0 _ sz (RN vs.length) (by rw [HLN.out]) fun i x hx => ?_
        rw [Nat.zero_add]
        exact cell_of HBR.out (by rw [List.getElem?_toArray, List.getElem?_map, hx]; rfl)
      go_wp2
      go_ret
      exact ⟨by rw [← HEND.out, HROW.out]; rfl, HK1.out.trans HKR.out⟩
end Go.Proofs.YtfehiclbcebnoaaGreat

namespace Go.Proofs.YtfehiclbcebnoaaGreat
open Go.RowKit Go.Proofs.Heap Go.Proofs.Sch Go.Proofs.Wide

theorem conv_byte {w : World} {b k : Nat} (hk : k < 256) (h : w.heap[b]? = some (.cells #[.int .u8 (k : Int)] 5 (0, 0))) : (convert 59 9 (.slice (some ⟨b, 0, none⟩) 1 1)).run Tryz.prog w = .ok (.string (bsB (leL 1 k))) w := by
  refine run_bytes_string _ _ _ 5 Tryz.underlying59 Tryz.underlying5 Tryz.underlying9 _ 0 1 1 (leL 1 k) rfl (fun i x hx => ?_)
  match i, hx with
  | 0, hx =>
    injection hx with hx
    subst hx
    rw [cell_of h rfl]
    unfold byteV
    rw [UInt8.toNat_ofNat', Nat.mod_eq_of_lt hk]
    rfl
  | _ + 1, hx => simp [leL] at hx
theorem idx_of_find {α : Type} {q : α → Bool} {l : List α} {c : α} (h : l.find? q = some c) : ∃ k : Nat, idxI q l = (k : Int) ∧ l[k]? = some c := by
  cases e : l.findIdx? q with
  | none =>
    have h1 : idxI q l = -1 := by unfold idxI; rw [e]
    rw [find_of_idx.1 h1] at h; cases h
  | some i =>
    have h1 : idxI q l = (i : Int) := by unfold idxI; rw [e]
    rw [List.findIdx?_eq_some_iff_getElem] at e
    obtain ⟨hi, _⟩ := e
    have h2 := find_of_idx.2 i l[i] h1 (List.getElem?_eq_getElem hi)
    rw [h] at h2
    injection h2 with h2
    exact ⟨i, h1, by rw [List.getElem?_eq_getElem hi, h2]⟩
theorem last_take {α : Type} {l : List α} {k : Nat} (h0 : 0 < k) (h : k ≤ l.length) : (l.take k).getLast? = l[k - 1]? := by
  rw [List.getLast?_eq_getElem?, List.length_take, Nat.min_eq_left h, List.getElem?_take_of_lt (by omega)]
theorem wrap8P {a : Nat} (h : a < 256) : IntKind.u8.wrap (a : Int) = (a : Int) := by simp [IntKind.wrap, IntKind.bits, IntKind.signed]; omega
theorem bs_appP (a b : List UInt8) : bsB a ++ bsB b = bsB (a ++ b) := by
  apply ByteArray.ext
  apply Array.toList_inj.1
  rw [ByteArray.data_append, Array.toList_append]; rfl

set_option maxRecDepth 20000 in
set_option maxHeartbeats 32000000 in
theorem r_parts8 (v : Int) (cs : List Cmp) (p : Option Addr) (cap : Nat) (l : List Prt) (q : Option Addr) (qc : Nat) (w : World) (hl : Small cs) (hll : l.length ≤ 255) (hvl : ∀ x ∈ l, ∀ y ∈ x.vals, y.fit) (hc : CP w w.heap.size p cs) (hv : PP w w.heap.size q l) :
    Calls Tryz.prog 7 #[.agg #[.int .i64 v, .slice p cs.length cap], .slice q l.length qc] w fun r w' => r = .returned (.tuple #[.string (encP v cs l), iV (prtsC v cs l)]) ∧ Keep (fun _ => False) w w' := by
  obtain ⟨w1, hw1, hb1, hs1, hk1⟩ := box1 w #[.int .i64 v, .slice p cs.length cap] 24
  have HK1 := hid hk1; have HB1 := hid hb1
  have HCP := hid (fun (wy : World) (hk : Keep (fun _ => False) w wy) => CP.mono (CP.low hc (Low.keep0 hk)) hk.size)
  have HPP := hid (fun (wy : World) (hk : Keep (fun _ => False) w wy) => PP.mono (PP.low hv (Low.keep0 hk)) hk.size)
  have HCK := hid (r_check v cs p cap w1 hl (HCP.out w1 hk1))
  have HPK := hid (fun (wy : World) (hk : Keep (fun _ => False) w wy) => r_parts v cs p cap l q qc wy hl (by omega) hvl (HCP.out wy hk) (HPP.out wy hk))
  have HFD := hid (fun (id : Int) (wy : World) (hk : Keep (fun _ => False) w wy) => r_find id v cs p cap wy hl.1 (HCP.out wy hk))
  have HL := hid hl; have HVL := hid hvl; have HLL := hid hll
  have c0 := cell_of hb1 (i := 0) (by rfl)
  have c1 := cell_of hb1 (i := 1) (by rfl)
  clear hb1 hs1 hk1 hl hc hv hvl
  go_enter Tryz.func7, Tryz.ntmps7
  go_upto_region 1 with fail
  rw [← hw1]
  clear hw1
  generalize w.heap.size = sb at *
  go_wp2_with fail
  refine HCK.out.mono ?_
  rintro r w2 ⟨rfl, hk2⟩
  have HK2 := hid (HK1.out.trans hk2)
  have HB2 := hid (hk2.get HB1.out id)
  clear hk2 c0 c1 HCK
  by_cases hz : checkC v cs = 0
  rotate_left
  · have HE : Hid (encP v cs l = ⟨#[]⟩ ∧ prtsC v cs l = checkC v cs) := hid (by
      have h : prtsC v cs l = checkC v cs := if_neg hz
      exact ⟨if_neg (by rw [h]; exact hz), h⟩)
    obtain ⟨R, hR⟩ : ∃ R, checkC v cs = R := ⟨_, rfl⟩
    rw [hR] at hz ⊢
    have HR := hid hR
    have g1 : ((R : Int) != 0) = true := by rw [bne_iff_ne]; omega
    have g2 : (R != 0) = true := by rw [bne_iff_ne]; exact hz
    clear hz hR
    go_wp2
    (try simp only [Exit.inBlock, Exit.then])
    refine bodyPost_ret (results_2z rfl _) rfl ?_
    exact ⟨by rw [HE.out.1, HE.out.2, HR.out]; rfl, HK2.out⟩
  have HZ := hid hz
  rw [hz]
  clear hz
  have c0 := cell_of HB2.out (i := 0) (by rfl)
  have c1 := cell_of HB2.out (i := 1) (by rfl)
  go_wp2_with fail
  refine (HPK.out w2 HK2.out).mono ?_
  rintro r w3 ⟨rfl, hk3⟩
  have HK3 := hid (HK2.out.trans hk3)
  have HB3 := hid (hk3.get HB2.out id)
  clear hk3 c0 c1 HPK
  by_cases hy : partsC cs [] l = 0
  rotate_left
  · have HE : Hid (encP v cs l = ⟨#[]⟩ ∧ prtsC v cs l = partsC cs [] l) := hid (by
      have h : prtsC v cs l = partsC cs [] l := by unfold prtsC; rw [if_pos HZ.out, if_neg hy]
      exact ⟨if_neg (by rw [h]; exact hy), h⟩)
    obtain ⟨R, hR⟩ : ∃ R, partsC cs [] l = R := ⟨_, rfl⟩
    rw [hR] at hy ⊢
    have HR := hid hR
    have g1 : ((R : Int) != 0) = true := by rw [bne_iff_ne]; omega
    have g2 : (R != 0) = true := by rw [bne_iff_ne]; exact hy
    clear hy hR
    go_wp2
    (try simp only [Exit.inBlock, Exit.then])
    refine bodyPost_ret (results_2z rfl _) rfl ?_
    exact ⟨by rw [HE.out.1, HE.out.2, HR.out]; rfl, HK3.out⟩
  have HY := hid hy
  rw [hy]
  clear hy
  have HPA := hid (partsC_all [] l HY.out)
  have HID := hid (partsC_id HZ.out HY.out)
  have u0 := wrap8P (show l.length < 256 by omega)
  have hcv := conv_byte (k := l.length) (by omega) (heap_alloc_new w3 (.cells #[.int .u8 (l.length : Int)] 5))
  obtain ⟨w4, hw4, hb4, hs4, hk4⟩ := box1 w3 #[.int .u8 (l.length : Int)] 5
  have HB4 := hid (hk4.get HB3.out id); have HK4 := hid (HK3.out.trans hk4)
  clear hb4 hs4 hk4
  go_upto_region 8 with fail
  rw [← hw4]
  clear hw4 hcv u0
  have HT1 : Hid ((bsB (leL 1 l.length)).size = 1) := hid (by rw [bs_size, leL_len])
  go_wp2_with fail
  go_loopw [8, 9, 10] (fun o i _ wr => ∃ k : Nat, k ≤ l.length ∧ i = iV k ∧ o = .string (bsB (leL 1 l.length ++ (l.take k).flatMap (prtL cs))) ∧ Rise (l.take k) ∧ Keep (fun _ => False) w4 wr) (fun _ i _ _ => l.length + 1 - (RowKit.intOf i).toNat)
  case atStart => exact ⟨0, Nat.zero_le _, rfl, by simp, by simp [Rise], Keep.refl _ _⟩
  case round =>
    obtain ⟨k, hk, rfl, rfl, hrs, hkr⟩ := hrel
    have HKR := hid (HK4.out.trans hkr); have HBR := hid (hkr.get HB4.out id); have HRS := hid hrs; have HK4R := hid hkr
    clear hkr hrs
    have hl255 := HLL.out
    by_cases hlt : k < l.length
    · obtain ⟨x, hx⟩ : ∃ x, l[k]? = some x := ⟨l[k], by simp [hlt]⟩
      have HX := hid hx
      have HM := hid (List.mem_of_getElem? hx)
      have HEB : Hid (prtsC v cs l = 4 → encP v cs l = ⟨#[]⟩) := hid (fun h => if_neg (by rw [h]; omega))
      have hin : (0 : Int) ≤ (k : Int) ∧ (k : Int) < (l.length : Int) := ⟨by omega, by omega⟩
      obtain ⟨b, off, fq, fk, rfl, hb, d0, d1, hfk, hxp⟩ := PP.at (HPP.out wr.drew HKR.out.drew) hx
      obtain ⟨c, hf, hcm, hci, hfs, hfz⟩ := partC_find (HPA.out x HM.out)
      have HXP := hid hxp; have HF := hid hf; have HFS := hid hfs; have HFZ := hid hfz
      clear hb hf hcm hci hfs hfz hxp hfk hx
      have HPA2 := hid (fun (wy : World) (hk : Keep (fun _ => False) w wy) => PP.at (HPP.out wy hk) HX.out)
      obtain ⟨gb, hgb⟩ : ∃ gb : Bool, (gb = true ↔ 0 < k ∧ ∃ y, l[k - 1]? = some y ∧ x.comp ≤ y.comp) := by
        by_cases h : 0 < k ∧ ∃ y, l[k - 1]? = some y ∧ x.comp ≤ y.comp
        · exact ⟨true, by simp [h]⟩
        · exact ⟨false, by simp [h]⟩
      have HGB := hid hgb
      clear hgb
      go_upto_region 11 with fail
      go_cut [48] from 33 to 78 (fun u wx => u = .bool gb ∧ Keep (fun _ => False) wr wx)
      case first =>
        by_cases hk0 : k = 0
        · have hg : gb = false := by
            cases h : gb
            · rfl
            · have := (HGB.out.1 h).1; omega
          have g1 : decide ((0 : Int) < (k : Int)) = false := decide_eq_false (by omega)
          have g2 : decide (0 < k) = false := decide_eq_false (by omega)
          have HG := hid hg
          clear hg hk0
          refine Plan.wp_region_reads (by as_aux_lemma => kernel_rfl) (by as_aux_lemma => kernel_rfl) ?_
          repeat (go_big_quiet_step (fail))
          refine wpQuiet_nil ?_
          go_wp2
          go_meet
          case rel => exact ⟨by rw [HG.out], (Keep.refl _ _).drew⟩
        · obtain ⟨j, hj⟩ : ∃ j, k = j + 1 := ⟨k - 1, by omega⟩
          have hj1 : (k : Int) - 1 = (j : Int) := by omega
          obtain ⟨y, hy⟩ : ∃ y, l[j]? = some y := ⟨l[j]'(by omega), by simp [show j < l.length by omega]⟩
          have g1 : decide ((0 : Int) < (k : Int)) = true := decide_eq_true (by omega)
          have g2 : decide (0 < k) = true := decide_eq_true (by omega)
          have hinj : (0 : Int) ≤ (j : Int) ∧ (j : Int) < (l.length : Int) := ⟨by omega, by omega⟩
          obtain ⟨b2, off2, q2, c2, e2, _, y0, y1, _, _⟩ := PP.at (HPP.out wr.drew HKR.out.drew) hy
          injection e2 with e2
          injection e2 with e3 e4
          subst e3; subst e4
          have HG : Hid (gb = decide (x.comp ≤ y.comp)) := hid (by
            apply Bool.eq_iff_iff.2
            rw [HGB.out, decide_eq_true_iff]
            have e : k - 1 = j := by omega
            rw [e]
            constructor
            · rintro ⟨_, z, hz, h⟩
              rw [hy] at hz; injection hz with hz; subst hz; exact h
            · exact fun h => ⟨by omega, y, hy, h⟩)
          clear hy hj hk0
          refine Plan.wp_region_reads (by as_aux_lemma => kernel_rfl) (by as_aux_lemma => kernel_rfl) ?_
          repeat (go_big_quiet_step (fail))
          refine wpQuiet_nil ?_
          go_wp2
          go_meet
          case rel => exact ⟨by rw [HG.out], (Keep.refl _ _).drew⟩
      case rest =>
      obtain ⟨rfl, hkc⟩ := hcut
      have HKC := hid (HKR.out.trans hkc); have HBC := hid (hkc.get HBR.out id); have HK4C := hid (HK4R.out.trans hkc)
      clear hkc d0 d1
      generalize wc = we at *
      cases gb
      rotate_left
      · have HE : Hid (encP v cs l = ⟨#[]⟩ ∧ prtsC v cs l = 4) := hid (by
          obtain ⟨h0, y, hy, hxy⟩ := HGB.out.1 rfl
          have hn : ¬ Rise l := by
            have h1 : l = l.take k ++ x :: l.drop (k + 1) := by
              rw [← drop_next HX.out, List.take_append_drop]
            rw [h1]
            exact rise_not (by rw [last_take h0 hk]; exact hy) hxy
          have h2 : risesB l = false := by
            cases h : risesB l
            · rfl
            · exact absurd ((rise_iff l).2 ⟨h, (partsC_new l [] HY.out).2⟩) hn
          have h3 : prtsC v cs l = 4 := by unfold prtsC; rw [if_pos HZ.out, if_pos HY.out, h2]; rfl
          exact ⟨HEB.out h3, h3⟩)
        go_wp2
        (try simp only [Exit.inBlock, Exit.then])
        refine bodyPost_ret (results_2z rfl _) rfl ?_
        exact ⟨by rw [HE.out.1, HE.out.2]; rfl, HKC.out⟩
      have HRN : Hid (Rise (l.take (k + 1))) := hid (by
        rw [take_next HX.out]
        refine rise_snoc HRS.out (fun y hy => ?_)
        by_cases h0 : 0 < k
        · rw [last_take h0 hk] at hy
          rcases Nat.lt_or_ge 0 1 with _ | _
          · by_cases h : x.comp ≤ y.comp
            · exact absurd (HGB.out.2 ⟨h0, y, hy, h⟩) (by simp)
            · omega
          · omega
        · have : k = 0 := by omega
          subst this
          simp at hy)
      clear HGB
      have hcd0 := cell_of HBC.out (i := 0) (by rfl)
      go_upto_region 13 with fail
      have HKd := hid HKC.out.drew; have HK4d := hid HK4C.out.drew
      have HBd : Hid (we.drew.heap[sb]? = _) := HBC
      obtain ⟨b', off', fq', fk', eb', _, d0, d1, hfk, hxp⟩ := HPA2.out we.drew HKd.out
      injection eb' with eb'
      injection eb' with eb1 eb2
      subst eb1; subst eb2
      have HXP := hid hxp
      clear hcd0 hxp hfk
      refine Plan.wp_region_pl [(false, 0, []), (false, 1, []), (false, 2, []), (false, 3, []), (false, 4, []), (false, 5, []), (true, 6, []), (false, 7, [])] (by as_aux_lemma => kernel_rfl) (by as_aux_lemma => kernel_rfl) ?_
      generalize we.drew = wd at *
      have c0 := cell_of HBd.out (i := 0) (by rfl)
      have c1 := cell_of HBd.out (i := 1) (by rfl)
      iterate 6 (refine Plan.pl_st rfl ?_; go_big_quiet_step (fail); refine wpQuiet_nil ?_)
      refine Plan.pl_ac rfl ?_
      go_wp2_with fail
      refine (HFD.out x.comp wd HKd.out).mono ?_
      rintro r we2 ⟨rfl, hk⟩
      have HKe := hid (HKd.out.trans hk); have HK4e := hid (HK4d.out.trans hk); have HBe := hid (hk.get HBd.out id)
      clear hk c0 c1 d0 d1
      go_wp2
      refine Plan.plQ_mk Plan.chk_end ?_
      iterate 1 (refine Plan.pl_st rfl ?_; go_big_quiet_step (fail); refine wpQuiet_nil ?_)
      refine Plan.pl_end ?_
      obtain ⟨kk, hkk, hck⟩ := idx_of_find HF.out
      rw [hkk]
      have HCK := hid hck
      have hkl : kk < cs.length := (List.getElem?_eq_some_iff.1 hck).1
      clear hkk hck
      obtain ⟨ci, hci⟩ : ∃ ci : Nat, x.comp = (ci : Int) := ⟨x.comp.toNat, by have := (HID.out x HM.out).1; omega⟩
      have hc256 : ci < 256 := by have := (HID.out x HM.out).2; omega
      have hux : IntKind.u8.wrap x.comp = (ci : Int) := by rw [hci]; exact wrap8P hc256
      have HCI := hid hci
      clear hci
      obtain ⟨so, hso⟩ : ∃ so, bsB (leL 1 l.length ++ (l.take k).flatMap (prtL cs)) = so := ⟨_, rfl⟩
      have hsz : so.size ≤ 65536 := by
        have h := flat_le (prtL cs) 257 (l := l.take k) (fun g hg => prtL_len (HPA.out g (List.mem_of_mem_take hg)))
        rw [List.length_take] at h
        rw [← hso, bs_size, List.length_append, leL_len]
        have : min k l.length * 257 ≤ 255 * 257 := Nat.mul_le_mul_right _ (by omega)
        omega
      obtain ⟨pk, hpk⟩ : ∃ pk : ByteArray, (⟨(packL c.fs x.vals).toArray⟩ : ByteArray) = pk := ⟨_, rfl⟩
      have hpz : pk.size ≤ 256 := by
        have h1 := packL_len HFZ.out
        have h2 := pSize_le (fitC_zero HFZ.out).1
        have h3 : pk.size = (packL c.fs x.vals).length := by rw [← hpk]; exact bs_size _
        omega
      have HNX : Hid (so ++ bsB (leL 1 ci) ++ pk = bsB (leL 1 l.length ++ (l.take (k + 1)).flatMap (prtL cs))) := hid (by
        have e1 : u64N x.comp = ci := by rw [HCI.out]; exact u64N_nat (by omega)
        rw [flat_next (prtL cs) HX.out, ← hso, ← hpk]
        show bsB _ ++ bsB _ ++ bsB (packL c.fs x.vals) = _
        rw [bs_appP, bs_appP]
        unfold prtL
        rw [HFS.out, e1]
        simp only [List.append_assoc])
      have HPK := hid hpk
      rw [hso]
      have hz1 : (bsB (leL 1 ci)).size = 1 := by rw [bs_size, leL_len]
      have y1 : ¬ (9223372036854775807 < so.size + 1) := by omega
      have y2 : ¬ (9223372036854775807 < so.size + 1 + pk.size) := by omega
      have hink : (0 : Int) ≤ (kk : Int) ∧ (kk : Int) < (cs.length : Int) := ⟨by omega, by omega⟩
      have HCV := hid (fun (wy : World) (b : Nat) (h : wy.heap[b]? = some (.cells #[.int .u8 (ci : Int)] 5 (0, 0))) => conv_byte hc256 h)
      have HSO := hid hsz
      clear hso hpk hsz hpz
      go_upto_region 14 with fail
      have HKd3 := hid HKe.out.drew
      obtain ⟨bc, offc, cp, cz, hpe, hbc, f0, f1, f2, hcz, hfp⟩ := CP.at (HCP.out we2.drew HKd3.out) HCK.out
      subst hpe
      obtain ⟨b', off', fq', fk', eb', hbp, d0, d1, hfk, hxp⟩ := HPA2.out we2.drew HKd3.out
      injection eb' with eb'
      injection eb' with eb1 eb2
      subst eb1; subst eb2
      have HB3 : Hid (we2.drew.heap[sb]? = some (.cells #[.int .i64 v, .slice (some ⟨bc, offc, none⟩) cs.length cap] 24 (0, 0))) := HBe
      have HD : Hid (∀ wy, Keep (fun _ => False) we2.drew wy → (wy.cell? ⟨b, off + k * 2, none⟩ = some (.int .i64 x.comp) ∧ wy.cell? ⟨b, off + k * 2 + 1, none⟩ = some (.slice fq' x.vals.length fk') ∧ wy.cell? ⟨sb, 1, none⟩ = some (.slice (some ⟨bc, offc, none⟩) cs.length cap) ∧ wy.cell? ⟨bc, offc + kk * 3 + 2, none⟩ = some (.slice cp c.fs.length cz)) ∧ FP wy wy.heap.size cp c.fs ∧ XP wy wy.heap.size fq' x.vals) := hid (fun wy hk => by
        have hl := Low.keep0 hk
        refine ⟨⟨(hl.cell hbp).trans d0, (hl.cell hbp).trans d1, cell_of (hk.get HB3.out id) (by rfl), (hl.cell hbc).trans f2⟩, FP.mono (FP.low hfp hl) hk.size, XP.mono (XP.low hxp hl) hk.size⟩)
      have HPAK2 := hid (fun (wy : World) (hk : Keep (fun _ => False) we2.drew wy) => by
        have h := r_pack c.fs cp cz x.vals fq' fk' wy (fitC_zero HFZ.out).1 (fitC_zero HFZ.out).2.1 (HVL.out x HM.out) (HD.out wy hk).2.1 (HD.out wy hk).2.2
        rw [HPK.out] at h
        exact h)
      clear f0 f1 f2 hcz hfp d0 d1 hfk hxp hbc hbp
      have hl2 := HLL.out
      refine Plan.wp_region_tr (.st 0 (.st 1 (.st 2 (.st 3 (.st 4 (.st 5 (.st 6 (.st 10 (.st 11 (.st 12 (.st 13 (.st 14 (.st 15 (.st 16 (.st 17 (.st 18 (.st 19 (.st 20 (.br 7 [0, 10, 11, 12, 13, 14, 15, 16, 17, 18, 19, 20] (.st 8 (.st 9 (.ac 21 [0, 8, 9] (.st 22 (.ac 23 [] .done))))) 21 [0, 1, 2, 3, 4, 5, 6] (.ac 7 [0] (.st 8 (.st 9 (.st 22 (.ac 23 [] .done)))))))))))))))))))))))) (by as_aux_lemma => kernel_rfl) (by as_aux_lemma => kernel_rfl) ?_
      have HK0 : Hid (Keep (fun _ => False) we2 we2.drew) := hid (Keep.refl _ _).drew
      have HKr : Hid (Keep (fun _ => False) we2.drew we2.drew) := hid (Keep.refl _ _)
      generalize we2.drew = wd3 at *
      obtain ⟨⟨d0, d1, c1, f2⟩, _, _⟩ := HD.out wd3 HKr.out
      iterate 18 (refine Plan.tr_st rfl ?_; go_big_quiet_step (fail); refine wpQuiet_nil ?_)
      refine Plan.tr_br rfl rfl ?_ ?_
      · obtain ⟨wb, hwb, hbb, hsb, hkb⟩ := box1 wd3 #[.int .u8 (ci : Int)] 5
        have HBB := hid hbb; have HKb := hid hkb
        clear hbb hsb hkb d0 d1 c1 f2
        go_wp2
        rw [← hwb]
        clear hwb
        generalize wd3.heap.size = bb at *
        obtain ⟨⟨d0, d1, c1, f2⟩, _, _⟩ := HD.out wb HKb.out
        have hcv := HCV.out wb bb HBB.out
        refine Plan.trQ_mk ?_ ?_
        · repeat (refine Plan.chk_st rfl ?_ ?_; focus (go_big_quiet_step (fail); exact wpQuiet_nil rfl))
          exact Plan.chk_end
        iterate 2 (refine Plan.tr_st rfl ?_; go_big_quiet_step (fail); refine wpQuiet_nil ?_)
        refine Plan.tr_ac rfl ?_
        go_wp2_with fail
        refine (HPAK2.out wb HKb.out).mono ?_
        rintro r wp ⟨rfl, hk⟩
        have HKp := hid (HKb.out.trans hk); have HBp := hid (hk.get HBB.out id)
        clear hk d0 d1 c1 f2 hcv
        obtain ⟨⟨d0, d1, c1, f2⟩, _, _⟩ := HD.out wp HKp.out
        have hcv := HCV.out wp bb HBp.out
        go_wp2
        refine Plan.trQ_mk ?_ ?_
        · repeat (refine Plan.chk_st rfl ?_ ?_; focus (go_big_quiet_step (fail); exact wpQuiet_nil rfl))
          exact Plan.chk_end
        iterate 1 (refine Plan.tr_st rfl ?_; go_big_quiet_step (fail); refine wpQuiet_nil ?_)
        refine Plan.tr_ac rfl ?_
        go_wp2
        refine Plan.trQ_mk ?_ ?_
        · repeat (refine Plan.chk_st rfl ?_ ?_; focus (go_big_quiet_step (fail); exact wpQuiet_nil rfl))
          exact Plan.chk_end
        refine Plan.tr_end ?_
        clear hz1 y1 y2 hink hux hcv
        go_wp2
        go_roundw
        case rel => exact ⟨k + 1, by omega, by go_num, by rw [← HNX.out], HRN.out, (HK4e.out.trans HK0.out).trans HKp.out⟩
        case measure => simp [RowKit.intOf]; omega
      · go_wp2_with fail
        refine (HPAK2.out wd3 HKr.out).mono ?_
        rintro r wp ⟨rfl, hk⟩
        have HKp := hid hk
        clear hk d0 d1 c1 f2
        obtain ⟨⟨d0, d1, c1, f2⟩, _, _⟩ := HD.out wp HKp.out
        go_wp2
        refine Plan.trQ_mk ?_ ?_
        · repeat (refine Plan.chk_st rfl ?_ ?_; focus (go_big_quiet_step (fail); exact wpQuiet_nil rfl))
          exact Plan.chk_end
        obtain ⟨wb, hwb, hbb, hsb, hkb⟩ := box1 wp #[.int .u8 (ci : Int)] 5
        have HBB := hid hbb; have HKb := hid (HKp.out.trans hkb)
        clear hbb hsb hkb d0 d1 c1 f2
        refine Plan.tr_ac rfl ?_
        go_wp2
        rw [← hwb]
        clear hwb
        generalize wp.heap.size = bb at *
        have hcv := HCV.out wb bb HBB.out
        refine Plan.trQ_mk ?_ ?_
        · repeat (refine Plan.chk_st rfl ?_ ?_; focus (go_big_quiet_step (fail); exact wpQuiet_nil rfl))
          exact Plan.chk_end
        iterate 3 (refine Plan.tr_st rfl ?_; go_big_quiet_step (fail); refine wpQuiet_nil ?_)
        refine Plan.tr_ac rfl ?_
        go_wp2
        refine Plan.trQ_mk ?_ ?_
        · repeat (refine Plan.chk_st rfl ?_ ?_; focus (go_big_quiet_step (fail); exact wpQuiet_nil rfl))
          exact Plan.chk_end
        refine Plan.tr_end ?_
        clear hz1 y1 y2 hink hux hcv
        go_wp2
        go_roundw
        case rel => exact ⟨k + 1, by omega, by go_num, by rw [← HNX.out], HRN.out, (HK4e.out.trans HK0.out).trans HKb.out⟩
        case measure => simp [RowKit.intOf]; omega
    · obtain rfl : k = l.length := by omega
      have HEND : Hid (encP v cs l = bsB (leL 1 l.length ++ (l.take l.length).flatMap (prtL cs)) ∧ prtsC v cs l = 0) := hid (by
        have h1 : prtsC v cs l = 0 := (prtsC_iff HZ.out).2 ⟨HPA.out, by have := HRS.out; rwa [List.take_length] at this⟩
        refine ⟨?_, h1⟩
        have e : encP v cs l = bsB (prtsL cs l) := if_pos h1
        rw [e, List.take_length]; rfl)
      go_wp2
      (try simp only [Exit.inBlock, Exit.then])
      refine bodyPost_ret (results_2z rfl _) rfl ?_
      exact ⟨by rw [HEND.out.1, HEND.out.2]; rfl, HKR.out⟩
end Go.Proofs.YtfehiclbcebnoaaGreat
