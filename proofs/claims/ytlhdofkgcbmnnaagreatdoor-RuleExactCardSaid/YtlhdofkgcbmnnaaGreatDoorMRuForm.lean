/- What is proved: a program of rules in the document's form (law 12). -/
import Derived.Test.YtlhdofkgcbmnnaaGreatDoorMRuAwake
import Derived.Test.YtlhdofkgcbmnnaaGreatDoorMRuFind
import Derived.Test.YtlhdofkgcbmnnaaGreatDoorMRf11Dec
import Derived.Test.YtlhdofkgcbmnnaaGreatDoorMRuEnc
namespace Go.Proofs.YtlhdofkgcbmnnaaGreatDoor
open Go.RowKit Go.Proofs.Heap Go.Proofs.Sch Go.Proofs.Wide

theorem info_formT : (Tryz.prog.info? 69).map (fun i => (i.zero, i.size, i.bytes)) = some (some (.slice none 0 0), 1, 24) := by kernel_rfl
theorem info_ruleT : (Tryz.prog.info? 51).map (fun i => (i.zero, i.size, i.bytes)) = some (some (.agg #[.int .i64 0, .int .i64 0, .slice none 0 0]), 3, 40) := by kernel_rfl
theorem info_progT : (Tryz.prog.info? 29).map (·.size) = some 3 := by kernel_rfl
theorem load_progT {w : World} {b : Nat} {x0 x1 x2 : Value} (h : w.heap[b]? = some (.cells #[x0, x1, x2] 29 (0, 0))) : (loadVar 29 ⟨b, 0, none⟩).run Tryz.prog w = .ok (.agg #[x0, x1, x2]) w :=
  run_loadVar_row w b _ 29 _ _ _ h Tryz.underlying29 rfl (by rw [info_progT]; rfl)

set_option maxRecDepth 20000 in
set_option maxHeartbeats 32000000 in
theorem ru_form (a b : Int) (rs : List Rul) (q : Option Addr) (qc : Nat) (w : World) (hl : rs.length ≤ 65536) (hL : ∀ r ∈ rs, LitR r) (hq : UP w w.heap.size q rs) :
    Calls Tryz.prog 9 #[PgV a b q rs.length qc] w fun r w' => ∃ p c, r = .returned (PgV a b p rs.length c) ∧ rs.length ≤ c ∧ UP w' w'.heap.size p rs ∧ Keep (fun _ => False) w w' := by
  obtain ⟨i0, hi0, hz0, hz1, hz2⟩ := info_parts' info_ins11
  obtain ⟨j0, hj0, hy0, hy1, hy2⟩ := info_parts' info_formT
  obtain ⟨k0, hk0, hx0, hx1, hx2⟩ := info_parts' info_ruleT
  obtain ⟨w3, hw3, hb1, hb2, hb3, hs3, hk3⟩ := box3 w #[.int .i64 a, .int .i64 b, .slice q rs.length qc] #[.int .i64 0, .int .i64 0, .slice none 0 0] #[.int .i64 a, .int .i64 b, .slice none 0 0] 24 29 29
  have HL := hid hL
  obtain ⟨sb, hsb⟩ : ∃ sb, w.heap.size = sb := ⟨_, rfl⟩
  rw [hsb] at hb1 hb2 hb3 hs3
  have HSB := hid hsb
  have HLOW := hid (fun (wy : World) (hk : Keep (fun g => g = sb + 1 + 1) w3 wy) => (hk3.trans' hk (fun i hi e => by omega) : Keep (fun _ => False) w wy))
  have HU : Hid (∀ wy, Keep (fun g => g = sb + 1 + 1) w3 wy → UP wy wy.heap.size q rs) := hid (fun wy hk => UP.mono (UP.low hq (Low.keep0 (HLOW.out wy hk))) (HLOW.out wy hk).size)
  have HW : Hid (∀ wy, Keep (fun g => g = sb + 1 + 1) w3 wy → wy.cell? ⟨sb, 2, none⟩ = some (.slice q rs.length qc)) := hid (fun wy hk => cell_of (hk.get hb1 (by omega)) (by rfl))
  have HRES : Hid (∀ wy, Keep (fun g => g = sb + 1 + 1) w3 wy → wy.heap[sb + 1]? = some (.cells #[.int .i64 0, .int .i64 0, .slice none 0 0] 29 (0, 0))) := hid (fun wy hk => hk.get hb2 (by omega))
  have HQ3 := hid hb3
  have HS3 : Hid (sb + 1 + 1 < w3.heap.size) := hid (lt_of_heap hb3)
  clear hk3 hb1 hb2 hb3 hs3 hL hq
  go_enter Tryz.func9, Tryz.ntmps9
  go_upto_region 2 with fail
  rw [← hw3]
  (try rw [hsb])
  clear hw3 hsb
  obtain ⟨BM, hBM⟩ : ∃ BM, w3.heap.size = BM := ⟨_, rfl⟩
  have HBM := hid hBM
  rw [hBM] at HS3
  clear hBM
  go_wp2_with fail
  go_loopw [4] (fun i wr => ∃ (k : Nat) (vs : List Rv) (p : Option Addr) (c : Nat), k ≤ rs.length ∧ i = iV k ∧ vs.map (·.1) = rs.take k ∧ wr.heap[sb + 1 + 1]? = some (.cells #[.int .i64 a, .int .i64 b, .slice p k c] 29 (0, 0)) ∧ RuT 51 wr BM (.slice p k c) vs ∧ Keep (fun g => g = sb + 1 + 1) w3 wr) (fun i _ => rs.length + 1 - (intOf i).toNat)
  case atStart => exact ⟨0, [], none, 0, Nat.zero_le _, rfl, rfl, HQ3.out, RuT.nil, Keep.refl _ _⟩
  case round =>
    obtain ⟨k, vs, vp, vc, hk, rfl, hmap, hq, hru, hkr⟩ := hrel
    have HMAP := hid hmap; have HQ := hid hq; have HRU := hid hru; have HKR := hid hkr
    have HVL : Hid (vs.length = k) := hid (by have := congrArg List.length hmap; rw [List.length_map, List.length_take] at this; omega)
    clear hmap hq hru hkr
    generalize wr = wo at *
    have s2 := HW.out _ HKR.out
    by_cases hlt : k < rs.length
    · obtain ⟨x, hxk⟩ : ∃ x, rs[k]? = some x := ⟨rs[k], by simp [hlt]⟩
      have HTK := hid (take_next hxk)
      have HXL := hid (HL.out x (List.mem_of_getElem? hxk))
      have HUO := hid (fun (wy : World) (hk : Keep (fun _ => False) wo wy) => (HKR.out.trans' hk (fun i hi e => e.elim) : Keep (fun g => g = sb + 1 + 1) w3 wy))
      have HX : Hid (∀ wy, Keep (fun _ => False) wo wy → ∃ b1 o1 eq ec, q = some ⟨b1, o1, none⟩ ∧ wy.cell? ⟨b1, o1 + k * 3, none⟩ = some (.int .i64 x.new) ∧ wy.cell? ⟨b1, o1 + k * 3 + 1, none⟩ = some (.int .i64 x.old) ∧ wy.cell? ⟨b1, o1 + k * 3 + 2, none⟩ = some (.slice eq x.exprs.length ec) ∧ EP wy wy.heap.size eq x.exprs) := hid (fun wy hk => by
        obtain ⟨b1, o1, eq, ec, h1, h2, h3, h4, h5, h6, h7⟩ := UP.at (HU.out wy (HUO.out wy hk)) hxk
        exact ⟨b1, o1, eq, ec, h1, h3, h4, h5, h7⟩)
      obtain ⟨b1, o1, eq, ec, rfl, _, _, c2, _⟩ := HX.out wo (Keep.refl _ _)
      have HXX : Hid (∀ wy, Keep (fun _ => False) wo wy → wy.cell? ⟨sb, 2, none⟩ = some (.slice (some ⟨b1, o1, none⟩) rs.length qc) ∧ wy.cell? ⟨b1, o1 + k * 3, none⟩ = some (.int .i64 x.new) ∧ wy.cell? ⟨b1, o1 + k * 3 + 1, none⟩ = some (.int .i64 x.old) ∧ wy.cell? ⟨b1, o1 + k * 3 + 2, none⟩ = some (.slice eq x.exprs.length ec) ∧ EP wy wy.heap.size eq x.exprs) := hid (fun wy hk => by
        obtain ⟨b2, o2, eq2, ec2, he, h3, h4, h5, h7⟩ := HX.out wy hk
        injection he with he; injection he with he1 he2 _; subst he1; subst he2
        have h5b := (Low.keep0 hk).cell (o := o1 + k * 3 + 2) (World.block_lt_of_cell? wo _ c2)
        rw [c2, h5] at h5b
        injection h5b with h5b; injection h5b with h5b _ h5c; subst h5b; subst h5c
        exact ⟨HW.out wy (HUO.out wy hk), h3, h4, h5, h7⟩)
      have hin : (0 : Int) ≤ (k : Int) ∧ (k : Int) < (rs.length : Int) := ⟨by omega, by omega⟩
      clear hxk HX c2
      obtain ⟨un, uo, es⟩ := x
      simp only at HXX HTK
      have HEL : Hid (∀ c ∈ es, c.length ≤ 65536) := hid HXL.out.2
      have hel : es.length ≤ 65536 := HXL.out.1
      clear HXL
      go_upto_region 5 with fail
      clear s2
      have HKD := hid (Keep.refl (fun _ => False) wo).drew
      refine Plan.wp_region_pl [(false, 0, []), (false, 1, []), (false, 2, []), (false, 3, []), (false, 4, []), (false, 5, []), (false, 6, []), (false, 7, []), (false, 8, []), (false, 9, []), (false, 10, []), (false, 11, []), (false, 12, []), (true, 13, [12, 11, 10, 9, 8, 7, 6, 5, 4, 3, 2, 1, 0]), (true, 14, [])] (by as_aux_lemma => kernel_rfl) (by as_aux_lemma => kernel_rfl) ?_
      generalize wo.drew = wd at *
      obtain ⟨s2, c0, c1, c2, _⟩ := HXX.out wd HKD.out
      iterate 13 (refine Plan.pl_st rfl ?_; go_big_quiet_step (fail); refine wpQuiet_nil ?_)
      obtain ⟨wz, hwz, hbz, hsz, hkz⟩ := box1 wd #[.int .i64 0, .int .i64 0, .slice none 0 0] 51
      have HKZ := hid (HKD.out.trans hkz)
      have HZB := hid hbz
      have HRB : Hid (wo.heap.size ≤ wd.heap.size) := hid HKD.out.size
      clear hbz hsz hkz
      refine Plan.pl_ac rfl ?_
      go_wp2
      rw [← hwz]
      clear hwz s2 c0 c1 c2
      obtain ⟨rb, hrb⟩ : ∃ rb, wd.heap.size = rb := ⟨_, rfl⟩
      rw [hrb] at HZB HRB ⊢
      clear hrb
      obtain ⟨s2, c0, c1, c2, _⟩ := HXX.out wz HKZ.out
      refine Plan.plQ_mk ?_ ?_
      · iterate 13 (refine Plan.chk_st rfl ?_ ?_; focus (go_big_quiet_step (fail); exact wpQuiet_nil rfl))
        exact Plan.chk_end
      have z0 := cell_of HZB.out (i := 0) (by rfl)
      have z1 := cell_of HZB.out (i := 1) (by rfl)
      have z2 := cell_of HZB.out (i := 2) (by rfl)
      have y0 := free_of HZB.out 0
      have y1 := free_of HZB.out 1
      have y2 := free_of HZB.out 2
      have HB5 : Hid ((((wz.setCell ⟨rb, 0, none⟩ (.int .i64 un)).setCell ⟨rb, 1, none⟩ (.int .i64 uo)).setCell ⟨rb, 2, none⟩ (.slice none 0 0)).heap[rb]? = some (.cells #[.int .i64 un, .int .i64 uo, .slice none 0 0] 51 (0, 0))) := hid (hsc_same (hsc_same (hsc_same HZB.out 0 _) 1 _) 2 _)
      have HK5 : Hid (Keep (fun _ => False) wo (((wz.setCell ⟨rb, 0, none⟩ (.int .i64 un)).setCell ⟨rb, 1, none⟩ (.int .i64 uo)).setCell ⟨rb, 2, none⟩ (.slice none 0 0))) := hid (((HKZ.out.setCell_new (p := ⟨rb, 0, none⟩) HRB.out _).setCell_new (p := ⟨rb, 1, none⟩) HRB.out _).setCell_new (p := ⟨rb, 2, none⟩) HRB.out _)
      refine Plan.pl_ac rfl ?_
      go_wp2
      refine Plan.plQ_mk Plan.chk_end ?_
      refine Plan.pl_end ?_
      clear s2 c0 c1 c2 z0 z1 z2 y0 y1 y2
      generalize (((wz.setCell ⟨rb, 0, none⟩ (.int .i64 un)).setCell ⟨rb, 1, none⟩ (.int .i64 uo)).setCell ⟨rb, 2, none⟩ (.slice none 0 0)) = w5 at *
      have HS5 := hid (lt_of_heap HB5.out)
      have HK16 := hid (fun (wy : World) (hk : Keep (fun g => g = rb) w5 wy) => (HK5.out.trans' hk (fun i hi e => by have := HRB.out; omega) : Keep (fun _ => False) wo wy))
      obtain ⟨B2, hB2⟩ : ∃ B2, w5.heap.size = B2 := ⟨_, rfl⟩
      have HB2 := hid hB2
      rw [hB2] at HS5
      clear hB2
      go_wp2_with fail
      go_loopw [6] (fun i wr => ∃ (m : Nat) (fs : List Fv) (fp : Option Addr) (fc : Nat), m ≤ es.length ∧ i = iV m ∧ fs.map (·.1) = es.take m ∧ wr.heap[rb]? = some (.cells #[.int .i64 un, .int .i64 uo, .slice fp m fc] 51 (0, 0)) ∧ FmT 69 wr B2 (.slice fp m fc) fs ∧ Keep (fun g => g = rb) w5 wr) (fun i _ => es.length + 1 - (intOf i).toNat)
      case atStart => exact ⟨0, [], none, 0, Nat.zero_le _, rfl, rfl, HB5.out, FmT.nil, Keep.refl _ _⟩
      case round =>
        obtain ⟨m, fs, fp, fc, hm, rfl, hfm, hrb, hft, hkm⟩ := hrel
        have HFM := hid hfm; have HRBm := hid hrb; have HFT := hid hft; have HKM := hid hkm
        have HFL : Hid (fs.length = m) := hid (by have := congrArg List.length hfm; rw [List.length_map, List.length_take] at this; omega)
        clear hfm hrb hft hkm
        generalize wr = wi at *
        have HKI := hid (HK16.out _ HKM.out)
        obtain ⟨s2, c0, c1, c2, _⟩ := HXX.out wi HKI.out
        by_cases hlm : m < es.length
        · obtain ⟨e, hem⟩ : ∃ e, es[m]? = some e := ⟨es[m], by simp [hlm]⟩
          have HTM := hid (take_next hem)
          have hee := HEL.out e (List.mem_of_getElem? hem)
          have hin2 : (0 : Int) ≤ (m : Int) ∧ (m : Int) < (es.length : Int) := ⟨by omega, by omega⟩
          have HEE : Hid (∀ wy, Keep (fun _ => False) wi wy → ∃ b2 o2 ep2 ec2, eq = some ⟨b2, o2, none⟩ ∧ wy.cell? ⟨b2, o2 + m, none⟩ = some (.slice ep2 e.length ec2) ∧ IP wy wy.heap.size ep2 e) := hid (fun wy hk => by
            obtain ⟨_, _, _, _, h5⟩ := HXX.out wy (HKI.out.trans hk)
            obtain ⟨b2, o2, ep2, ec2, h1, _, h2, _, h3⟩ := EP.at h5 hem
            exact ⟨b2, o2, ep2, ec2, h1, h2, h3⟩)
          obtain ⟨b2, o2, ep2, ec2, rfl, d0, _⟩ := HEE.out wi (Keep.refl _ _)
          have HEI : Hid (∀ wy, Keep (fun _ => False) wi wy → wy.cell? ⟨b2, o2 + m, none⟩ = some (.slice ep2 e.length ec2) ∧ IP wy wy.heap.size ep2 e) := hid (fun wy hk => by
            obtain ⟨b3, o3, ep3, ec3, he, h2, h3⟩ := HEE.out wy hk
            injection he with he; injection he with he1 he2 _; subst he1; subst he2
            have h5b := (Low.keep0 hk).cell (o := o2 + m) (World.block_lt_of_cell? wi _ d0)
            rw [d0, h2] at h5b
            injection h5b with h5b; injection h5b with h5b _ h5c; subst h5b; subst h5c
            exact ⟨h2, h3⟩)
          have HO0 : Hid ((wi.alloc (.cells #[] 70)).ownsRow wi.heap.size 70 6 (.slice (some ⟨wi.heap.size, 0, none⟩) 0 0) 0 []) := hid (World.ownsRow_made wi #[] 0 (Nat.le_refl _) (by unfold maxLen; omega) (by simp))
          have HK0 := hid ((Keep.refl (fun _ => False) wi).alloc (.cells #[] 70))
          clear hem HEE
          go_wp2_with fail
          clear s2 c0 c1 c2 d0
          go_loopw [7, 8] (fun v i wr => ∃ j : Nat, j ≤ e.length ∧ i = iV j ∧ wr.ownsRow wi.heap.size 70 6 v j ((e.take j).flatMap icl) ∧ Keep (fun _ => False) wi wr) (fun _ i _ => e.length + 1 - (intOf i).toNat)
          case atStart => exact ⟨0, Nat.zero_le _, rfl, HO0.out, HK0.out⟩
          case round =>
            obtain ⟨j, hj, rfl, how, hkj⟩ := hrel
            obtain ⟨np, nc, rfl⟩ := owns_val how
            have HO := hid how; have HKJ := hid hkj
            clear how hkj
            obtain ⟨s2, c0, c1, c2, _⟩ := HXX.out wr (HKI.out.trans HKJ.out)
            obtain ⟨d0, hip⟩ := HEI.out wr HKJ.out
            by_cases hlj : j < e.length
            · obtain ⟨y, hyj⟩ : ∃ y, e[j]? = some y := ⟨e[j], by simp [hlj]⟩
              have HT : Hid ((e.take (j + 1)).flatMap icl = (e.take j).flatMap icl ++ icl y) := hid (by rw [take_next hyj, List.flatMap_append]; simp)
              obtain ⟨b4, o4, rfl, hb4, y0, y1, y2, y3, y4, y5⟩ := IP.at hip hyj
              have hin3 : (0 : Int) ≤ (j : Int) ∧ (j : Int) < (e.length : Int) := ⟨by omega, by omega⟩
              clear hyj hb4 hip
              obtain ⟨op, xa, xb, ⟨kn, kh, kl⟩⟩ := y
              simp only at y0 y1 y2 y3 y4 y5
              obtain ⟨w8, hw8, hb8, hs8, hk8⟩ := box1 wr #[.int .i64 op, .int .i64 xa, .int .i64 xb, .bool kn, .int .u64 (kh : Int), .int .u64 (kl : Int)] 66
              have HX8 := hid hb8; have HK8 := hid (HKJ.out.trans hk8)
              have HO8 := hid (owns_keep HO.out (fun q hq => hk8.block q (HO.out.lt q hq).2 id))
              clear hb8 hs8 hk8
              go_upto_region 14 with fail
              rw [← hw8]
              clear hw8 s2 c0 c1 c2 d0 y0 y1 y2 y3 y4 y5
              generalize wr.heap.size = xbk at *
              have x0 : w8.cell? ⟨xbk, 0, none⟩ = some (.int .i64 op) := cell_of HX8.out (by rfl)
              have x1 : w8.cell? ⟨xbk, 1, none⟩ = some (.int .i64 xa) := cell_of HX8.out (by rfl)
              have x2 : w8.cell? ⟨xbk, 2, none⟩ = some (.int .i64 xb) := cell_of HX8.out (by rfl)
              have x3 : w8.cell? ⟨xbk, 3, none⟩ = some (.bool kn) := cell_of HX8.out (by rfl)
              have x4 : w8.cell? ⟨xbk, 4, none⟩ = some (.int .u64 (kh : Int)) := cell_of HX8.out (by rfl)
              have x5 : w8.cell? ⟨xbk, 5, none⟩ = some (.int .u64 (kl : Int)) := cell_of HX8.out (by rfl)
              go_wp2_with (at_builtin; go_loud (refine wpList_append_rd rfl (.tmp 73) (.tmp 83) _ rfl wi.heap.size _ i0 _ 6 48 Tryz.underlying69 hi0 hz0 hz1 hz2 rfl (by decide) _ j _ (by rfl) (HO8.out.alloc _) _ 1 (icl ⟨op, xa, xb, ⟨kn, kh, kl⟩⟩) (by rfl) (rd_block (heap_alloc_new w8 _) (by simp [icl]) (by simp [icl, Value.oneCell'])) (by unfold maxLen; omega) (by omega) (by have := HK8.out.size; simp; omega) ?_); go_loud (intro v' wz hown hgrow hat hn5; obtain ⟨vq, vd, rfl⟩ := owns_val hown; have HOZ := hid hown; have HKZ := hid ((HK8.out.alloc _).grown hgrow (fun k hk => .inl (HO8.out.lt k hk).1)); clear hown hgrow hat hn5))
              go_wp2
              go_roundw
              case rel => exact ⟨j + 1, by omega, by go_num, by rw [HT.out]; exact HOZ.out, HKZ.out⟩
              case measure => simp [intOf]; omega
            · obtain rfl : j = e.length := by omega
              have g0 : decide ((e.length : Int) < (e.length : Int)) = false := decide_eq_false (by omega)
              rw [List.take_length] at HO
              have HKJW := hid (HKM.out.trans (HKJ.out.mono (T := fun g => g = rb) (fun _ _ h => h.elim)))
              have hrj := HKJ.out.get HRBm.out (fun h => h)
              have HRJ := hid hrj
              have r2 : wr.cell? ⟨rb, 2, none⟩ = some (.slice fp m fc) := cell_of hrj (by rfl)
              have HFC : Hid (e.length ≤ nc) := hid (owns_cap HO.out)
              have HSI : Hid (SafeI (wr.alloc (.cells #[.slice np e.length nc] 69)) B2 (.slice fp m fc) (fun wy => IP wy wy.heap.size np e)) := hid ((SafeI.made (w := wi) (ip_ft rfl HO.out) (by have := HB2.out; have := HKM.out.size; omega) (fun g hg => (HFT.out.own.lt g hg).2)).keep ((Keep.refl (fun _ => False) wr).alloc _) (fun g h1 h2 => h2.elim))
              have HOF := hid ((HFT.out.keep HKJ.out (fun g h1 h2 => h2)).keep ((Keep.refl (fun _ => False) wr).alloc (.cells #[.slice np e.length nc] 69)) (fun g h1 h2 => h2))
              have HOA : Hid ((wr.alloc (.cells #[.slice np e.length nc] 69)).ownsRow B2 69 1 (.slice fp m fc) m (fs.map fV)) := hid (by
                have h := HOF.out.own
                rwa [HFL.out] at h)
              have HKA := hid (HKJW.out.alloc (.cells #[.slice np e.length nc] 69))
              have HSA := hid (((Keep.refl (fun _ => False) wr).alloc (.cells #[.slice np e.length nc] 69)).get HRJ.out (fun h => h))
              clear hip hrj
              go_wp2_with (at_builtin; go_loud (refine wpList_append_rd rfl (.tmp 86) (.tmp 88) _ rfl B2 _ j0 _ 1 24 Tryz.underlying49 hj0 hy0 hy1 hy2 rfl (by decide) _ m _ (by rfl) HOA.out _ 1 [.slice np e.length nc] (by rfl) (rd_block (heap_alloc_new wr _) (by simp) (by simp [Value.oneCell'])) (by unfold maxLen; omega) (by omega) (by have := HB2.out; have := HKA.out.size; omega) ?_); go_loud (intro v' wn hown5 hgrow5 hat5 hn5; have hS5 : wn.heap[rb]? = some (.cells #[.int .i64 un, .int .i64 uo, .slice fp m fc] 51 (0, 0)) := (hgrow5.block rb (lt_of_heap HSA.out) (fun h => by have := (HOA.out.lt rb h.symm).1; have := HS5.out; omega)).trans HSA.out; have HS5' := hid hS5; have HFN := hid (FmT.more (r := (e, np, nc)) HOF.out HFC.out HSI.out (by rw [HFL.out]; exact hown5) hgrow5 hat5); obtain ⟨vq, vd, rfl⟩ := owns_val hown5; have HKN := hid (HKA.out.grown hgrow5 (fun k hk => .inl (by have := (HOA.out.lt k hk).1; have := HB2.out; omega))); clear r2; have r2 : wn.cell? ⟨rb, 2, none⟩ = some (.slice fp m fc) := cell_of hS5 (by rfl); have f2 : wn.frozen? ⟨rb, 2, none⟩ = false := free_of hS5 2; clear hown5 hgrow5 hat5 hn5 hS5))
              have HSX : Hid ((wn.setCell ⟨rb, 2, none⟩ (.slice vq (m + 1) vd)).heap[rb]? = some (.cells #[.int .i64 un, .int .i64 uo, .slice vq (m + 1) vd] 51 (0, 0))) := hid (by simpa using hsc_same HS5'.out 2 (.slice vq (m + 1) vd))
              have HFX := hid (HFN.out.keep ((Keep.refl (fun g => g = rb) wn).setCell (p := ⟨rb, 2, none⟩) rfl (.slice vq (m + 1) vd)) (fun g h1 h2 => by have := HS5.out; omega))
              have HKX := hid (HKN.out.setCell (p := ⟨rb, 2, none⟩) rfl (.slice vq (m + 1) vd))
              go_wp2
              go_roundw
              case rel => exact ⟨m + 1, fs ++ [(e, np, nc)], vq, vd, by omega, by go_num, by rw [List.map_append, HFM.out, HTM.out]; rfl, HSX.out, HFX.out, HKX.out⟩
              case measure => simp [intOf]; omega
        · obtain rfl : m = es.length := by omega
          have g0 : decide ((es.length : Int) < (es.length : Int)) = false := decide_eq_false (by omega)
          have HFM2 : Hid (fs.map (·.1) = es) := hid (by have h := HFM.out; rwa [List.take_length] at h)
          have HOX := hid (HQ.out)
          have hqi := HKI.out.get HQ.out (fun h => h)
          have HQI := hid hqi
          have q2 : wi.cell? ⟨sb + 1 + 1, 2, none⟩ = some (.slice vp k vc) := cell_of hqi (by rfl)
          have r0 : wi.cell? ⟨rb, 0, none⟩ = some (.int .i64 un) := cell_of HRBm.out (by rfl)
          have r1 : wi.cell? ⟨rb, 1, none⟩ = some (.int .i64 uo) := cell_of HRBm.out (by rfl)
          have r2 : wi.cell? ⟨rb, 2, none⟩ = some (.slice fp es.length fc) := cell_of HRBm.out (by rfl)
          have HFC : Hid (es.length ≤ fc) := hid (owns_cap (by have h := HFT.out.own; rw [HFL.out] at h; exact h))
          have HSI : Hid (SafeI (wi.alloc (.cells #[.int .i64 un, .int .i64 uo, .slice fp es.length fc] 51)) BM (.slice vp k vc) (fun wy => EP wy wy.heap.size fp es)) := hid ((SafeI.made (w := wo) (((HFT.out.ft HFL.out.symm).mono (lo' := wo.heap.size) (by have := HB2.out; have := HK5.out.size; omega) (Nat.le_refl _)) |> fun h => by rwa [HFM2.out] at h) (by have := HBM.out; have := HKR.out.size; omega) (fun g hg => (HRU.out.own.lt g hg).2)).keep ((Keep.refl (fun _ => False) wi).alloc _) (fun g h1 h2 => h2.elim))
          have HOF := hid ((HRU.out.keep HKI.out (fun g h1 h2 => h2)).keep ((Keep.refl (fun _ => False) wi).alloc (.cells #[.int .i64 un, .int .i64 uo, .slice fp es.length fc] 51)) (fun g h1 h2 => h2))
          have HOA : Hid ((wi.alloc (.cells #[.int .i64 un, .int .i64 uo, .slice fp es.length fc] 51)).ownsRow BM 51 3 (.slice vp k vc) k (vs.flatMap rlcl)) := hid (by
            have h := HOF.out.own
            rwa [HVL.out] at h)
          have HKIW := hid (HKR.out.trans (HKI.out.mono (T := fun g => g = sb + 1 + 1) (fun _ _ h => h.elim)))
          have HKA := hid (HKIW.out.alloc (.cells #[.int .i64 un, .int .i64 uo, .slice fp es.length fc] 51))
          have HSA := hid (((Keep.refl (fun _ => False) wi).alloc (.cells #[.int .i64 un, .int .i64 uo, .slice fp es.length fc] 51)).get HQI.out (fun h => h))
          clear hqi
          go_wp2_with (at_builtin; go_loud (refine wpList_append_rd rfl (.tmp 92) (.tmp 94) _ rfl BM _ k0 _ 3 40 Tryz.underlying27 hk0 hx0 hx1 hx2 rfl (by decide) _ k _ (by rfl) HOA.out _ 1 [.int .i64 un, .int .i64 uo, .slice fp es.length fc] (by rfl) (rd_block (heap_alloc_new wi _) (by simp) (by simp [Value.oneCell'])) (by unfold maxLen; omega) (by omega) (by have := HBM.out; have := HKA.out.size; omega) ?_); go_loud (intro v' wn hown5 hgrow5 hat5 hn5; have hS5 : wn.heap[sb + 1 + 1]? = some (.cells #[.int .i64 a, .int .i64 b, .slice vp k vc] 29 (0, 0)) := (hgrow5.block (sb + 1 + 1) (lt_of_heap HSA.out) (fun h => by have := (HOA.out.lt _ h.symm).1; have := HS3.out; omega)).trans HSA.out; have HS5' := hid hS5; have HFN := hid (RuT.more (r := (⟨un, uo, es⟩, fp, fc)) HOF.out HFC.out HSI.out (by rw [HVL.out]; exact hown5) hgrow5 hat5); obtain ⟨vq, vd, rfl⟩ := owns_val hown5; have HKN := hid (HKA.out.grown hgrow5 (fun k hk => .inl (by have := (HOA.out.lt k hk).1; have := HBM.out; omega))); clear q2; have q2 : wn.cell? ⟨sb + 1 + 1, 2, none⟩ = some (.slice vp k vc) := cell_of hS5 (by rfl); have f2 : wn.frozen? ⟨sb + 1 + 1, 2, none⟩ = false := free_of hS5 2; clear hown5 hgrow5 hat5 hn5 hS5))
          have HSX : Hid ((wn.setCell ⟨sb + 1 + 1, 2, none⟩ (.slice vq (k + 1) vd)).heap[sb + 1 + 1]? = some (.cells #[.int .i64 a, .int .i64 b, .slice vq (k + 1) vd] 29 (0, 0))) := hid (by simpa using hsc_same HS5'.out 2 (.slice vq (k + 1) vd))
          have HFX := hid (HFN.out.keep ((Keep.refl (fun g => g = sb + 1 + 1) wn).setCell (p := ⟨sb + 1 + 1, 2, none⟩) rfl (.slice vq (k + 1) vd)) (fun g h1 h2 => by have := HS3.out; omega))
          have HKX := hid (HKN.out.setCell (p := ⟨sb + 1 + 1, 2, none⟩) rfl (.slice vq (k + 1) vd))
          go_wp2
          go_roundw
          case rel => exact ⟨k + 1, vs ++ [(⟨un, uo, es⟩, fp, fc)], vq, vd, by omega, by go_num, by rw [List.map_append, HMAP.out, HTK.out]; rfl, HSX.out, HFX.out, HKX.out⟩
          case measure => simp [intOf]; omega
    · obtain rfl : k = rs.length := by omega
      have g0 : decide ((rs.length : Int) < (rs.length : Int)) = false := decide_eq_false (by omega)
      have HM2 : Hid (vs.map (·.1) = rs) := hid (by have h := HMAP.out; rwa [List.take_length] at h)
      have q0 := cell_of HQ.out (i := 0) (by rfl)
      have q1 := cell_of HQ.out (i := 1) (by rfl)
      have q2 := cell_of HQ.out (i := 2) (by rfl)
      have hr := HRES.out _ HKR.out
      have HR := hid hr
      have f0 := free_of hr 0
      have f1 := free_of hr 1
      have f2 := free_of hr 2
      have r0 := cell_of hr (i := 0) (by rfl)
      have r1 := cell_of hr (i := 1) (by rfl)
      have r2 := cell_of hr (i := 2) (by rfl)
      clear hr
      go_wp2
      (try simp only [Exit.inBlock, Exit.then])
      refine bodyPost_ret (results_c rfl _ rfl (load_progT (cells3 (.int .i64 a) (.int .i64 b) (.slice vp rs.length vc) HR.out))) rfl ?_
      have hkf := (((Keep.refl (fun k => k = sb + 1) wo).setCell (p := ⟨sb + 1, 0, none⟩) rfl (.int .i64 a)).setCell (p := ⟨sb + 1, 1, none⟩) rfl (.int .i64 b)).setCell (p := ⟨sb + 1, 2, none⟩) rfl (.slice vp rs.length vc)
      have hfo := HRU.out.keep hkf (fun g h1 h2 => by have := HS3.out; omega)
      have hup := hfo.up HVL.out.symm
      rw [HM2.out] at hup
      refine ⟨vp, vc, rfl, owns_cap (by have h := HRU.out.own; rw [HVL.out] at h; exact h), hup, keep_new (HLOW.out _ HKR.out) hkf (fun g e => by have := HSB.out; omega)⟩
end Go.Proofs.YtlhdofkgcbmnnaaGreatDoor

namespace Go.Proofs.YtlhdofkgcbmnnaaGreatDoor
open Go.RowKit Go.Proofs.Heap Go.Proofs.Sch Go.Proofs.Wide

set_option maxRecDepth 100000 in
theorem eq_ins11 (x y : Ins) (w : World) : (Op.equalIn 10000 70 (InV x) (InV y)).run Tryz.prog w = .ok (decide (x = y)) w := by
  have u0 := Tryz.underlying3
  have u1 := Tryz.underlying4
  have u2 := Tryz.underlying62
  have hS : Tryz.prog.underlying 70 = some (.struct (Tryz.prog.fieldsOf 70)) := by kernel_rfl
  have hp : Tryz.prog.stoodInHeld 70 = false := by kernel_rfl
  have hS2 : Tryz.prog.underlying 64 = some (.struct (Tryz.prog.fieldsOf 64)) := by kernel_rfl
  have hp2 : Tryz.prog.stoodInHeld 64 = false := by kernel_rfl
  have key : ∀ (a b : WI), (Op.equalIn 9999 64 (WV a) (WV b)).run Tryz.prog w = .ok (decide (a = b)) w := by
    intro a b
    rw [show (9999 : Nat) = 9998 + 1 from rfl, run_equalIn_agg w 9998 64 _ _ hS2 hp2]
    simp only [Program.fieldsOf, Tryz.underlying64]
    go_simp
    obtain ⟨n1, h1, l1⟩ := a
    obtain ⟨n2, h2, l2⟩ := b
    cases n1 <;> cases n2 <;> by_cases e1 : h1 = h2 <;> by_cases e2 : l1 = l2 <;> simp [e1, e2] <;> omega
  rw [show (10000 : Nat) = 9999 + 1 from rfl, run_equalIn_agg w 9999 70 _ _ hS hp]
  simp only [Program.fieldsOf, Tryz.underlying70]
  clear hS hp hS2 hp2
  have px : ∀ z : Ins, (part 3 #[.int .i64 z.op, .int .i64 z.a, .int .i64 z.b, .bool z.k.neg, .int .u64 (z.k.hi : Int), .int .u64 (z.k.lo : Int)] 0).run Tryz.prog w = .ok (.int .i64 z.op) w ∧
      (part 3 #[.int .i64 z.op, .int .i64 z.a, .int .i64 z.b, .bool z.k.neg, .int .u64 (z.k.hi : Int), .int .u64 (z.k.lo : Int)] 1).run Tryz.prog w = .ok (.int .i64 z.a) w ∧
      (part 3 #[.int .i64 z.op, .int .i64 z.a, .int .i64 z.b, .bool z.k.neg, .int .u64 (z.k.hi : Int), .int .u64 (z.k.lo : Int)] 2).run Tryz.prog w = .ok (.int .i64 z.b) w ∧
      (part 64 #[.int .i64 z.op, .int .i64 z.a, .int .i64 z.b, .bool z.k.neg, .int .u64 (z.k.hi : Int), .int .u64 (z.k.lo : Int)] 3).run Tryz.prog w = .ok (WV z.k) w := fun z => ⟨by kernel_rfl, by kernel_rfl, by kernel_rfl, by kernel_rfl⟩
  have ei : ∀ a b : Int, (Op.equalIn 9999 3 (.int .i64 a) (.int .i64 b)).run Tryz.prog w = .ok (a == b) w := fun a b => run_equalIn_int w 9998 3 .i64 .i64 a b u0
  obtain ⟨x0, x1, x2, x3⟩ := px x
  obtain ⟨y0, y1, y2, y3⟩ := px y
  have hx : (x = y) ↔ (x.op = y.op ∧ x.a = y.a ∧ x.b = y.b ∧ x.k = y.k) := by
    obtain ⟨o1, a1, b1, k1⟩ := x
    obtain ⟨o2, a2, b2, k2⟩ := y
    simp only [Ins.mk.injEq]
  simp only [Op.eqFields, Sem.run_bind, Sem.run_ite, x0, x1, x2, x3, y0, y1, y2, y3, ei, key, Result.andThen_ok]
  by_cases h0 : x.op = y.op <;> by_cases h1 : x.a = y.a <;> by_cases h2 : x.b = y.b <;> by_cases h3 : x.k = y.k <;> simp [hx, h0, h1, h2, h3]
theorem neq_ins11 (x y : Ins) (w : World) : (binOp .neq 70 (InV x) (InV y)).run Tryz.prog w = .ok (.bool (!decide (x = y))) w := by
  rw [run_neq_struct, eq_ins11]; rfl
theorem eql_ins11 (x y : Ins) (w : World) : (binOp .eql 70 (InV x) (InV y)).run Tryz.prog w = .ok (.bool (decide (x = y))) w := by
  rw [run_eql_struct, eq_ins11]; rfl
end Go.Proofs.YtlhdofkgcbmnnaaGreatDoor

namespace Go.Proofs.YtlhdofkgcbmnnaaGreatDoor
open Go.RowKit Go.Proofs.Heap Go.Proofs.Sch Go.Proofs.Wide

theorem neq_ins11a (x : Ins) (w : World) : (binOp .neq 70 (InV x) (InV x)).run Tryz.prog w = .ok (.bool false) w := by rw [run_neq_struct, eq_ins11]; simp
theorem neq_ins11b {x y : Ins} (h : x ≠ y) (w : World) : (binOp .neq 70 (InV x) (InV y)).run Tryz.prog w = .ok (.bool true) w := by rw [run_neq_struct, eq_ins11, decide_eq_false h]; rfl

set_option maxRecDepth 20000 in
set_option maxHeartbeats 32000000 in
theorem ru_same12 (a b : Int) (rs : List Rul) (pa : Option Addr) (ca : Nat) (c d : Int) (us : List Rul) (pb : Option Addr) (cb : Nat) (w : World) (hl : rs.length ≤ 65536) (hL : ∀ r ∈ rs, LitR r) (hA : UP w w.heap.size pa rs) (hB : UP w w.heap.size pb us) :
    Calls Tryz.prog 16 #[PgV a b pa rs.length ca, PgV c d pb us.length cb] w fun r w' => r = .returned (.bool (sameP a b rs c d us)) ∧ Keep (fun _ => False) w w' := by
  have HNE : Hid ((a ≠ c ∨ b ≠ d ∨ rs ≠ us) → sameP a b rs c d us = false) := hid (fun h => decide_eq_false (fun e => by rcases h with h | h | h; exact h e.1; exact h e.2.1; exact h e.2.2))
  have HYE : Hid (a = c → b = d → rs = us → sameP a b rs c d us = true) := hid (fun h1 h2 h3 => decide_eq_true ⟨h1, h2, h3⟩)
  generalize sameP a b rs c d us = R at *
  obtain ⟨w1, hw1, hb1, hb2, hs1, hk1⟩ := box2 w #[.int .i64 a, .int .i64 b, .slice pa rs.length ca] #[.int .i64 c, .int .i64 d, .slice pb us.length cb] 29 29
  have HK1 := hid hk1
  have HUA := hid (fun (wy : World) (hk : Keep (fun _ => False) w wy) => UP.mono (UP.low hA (Low.keep0 hk)) hk.size)
  have HUB := hid (fun (wy : World) (hk : Keep (fun _ => False) w wy) => UP.mono (UP.low hB (Low.keep0 hk)) hk.size)
  have HL := hid hL
  obtain ⟨sb, hsb⟩ : ∃ sb, w.heap.size = sb := ⟨_, rfl⟩
  rw [hsb] at hb1 hb2
  have HC : Hid (∀ wy, Keep (fun _ => False) w1 wy → wy.cell? ⟨sb, 0, none⟩ = some (.int .i64 a) ∧ wy.cell? ⟨sb, 1, none⟩ = some (.int .i64 b) ∧ wy.cell? ⟨sb, 2, none⟩ = some (.slice pa rs.length ca) ∧ wy.cell? ⟨sb + 1, 0, none⟩ = some (.int .i64 c) ∧ wy.cell? ⟨sb + 1, 1, none⟩ = some (.int .i64 d) ∧ wy.cell? ⟨sb + 1, 2, none⟩ = some (.slice pb us.length cb)) := hid (fun wy hk =>
    ⟨cell_of (hk.get hb1 (fun e => e)) (by rfl), cell_of (hk.get hb1 (fun e => e)) (by rfl), cell_of (hk.get hb1 (fun e => e)) (by rfl), cell_of (hk.get hb2 (fun e => e)) (by rfl), cell_of (hk.get hb2 (fun e => e)) (by rfl), cell_of (hk.get hb2 (fun e => e)) (by rfl)⟩)
  clear hb1 hb2 hs1 hk1 hA hB hL
  go_enter Tryz.func16, Tryz.ntmps16
  go_upto_region 1 with fail
  rw [← hw1]
  (try rw [hsb])
  clear hw1 hsb
  obtain ⟨a0, a1, a2, b0, b1, b2⟩ := HC.out w1 (Keep.refl _ _)
  by_cases e1 : a = c
  rotate_left
  · have g1 : (a != c) = true := bne_iff_ne.2 e1
    have G := hid (HNE.out (.inl e1))
    clear e1 HNE HYE
    go_wp2
    go_ret
    exact ⟨by rw [G.out]; rfl, HK1.out⟩
  subst e1
  have g1 : (a != a) = false := by simp
  by_cases e2 : b = d
  rotate_left
  · have g2 : (b != d) = true := bne_iff_ne.2 e2
    have G := hid (HNE.out (.inr (.inl e2)))
    clear e2 HNE HYE
    go_wp2
    go_ret
    exact ⟨by rw [G.out]; rfl, HK1.out⟩
  subst e2
  have g2 : (b != b) = false := by simp
  have HN2 : Hid (rs ≠ us → R = false) := hid (fun h => HNE.out (.inr (.inr h)))
  have HY2 : Hid (rs = us → R = true) := hid (fun h => HYE.out rfl rfl h)
  clear HNE HYE
  by_cases e3 : rs.length = us.length
  rotate_left
  · have g3 : ((rs.length : Int) != (us.length : Int)) = true := by rw [bne_iff_ne]; omega
    have g4 : (rs.length != us.length) = true := by rw [bne_iff_ne]; exact e3
    have G := hid (HN2.out (fun h => e3 (by rw [h])))
    clear e3 HN2 HY2
    go_wp2
    go_ret
    exact ⟨by rw [G.out]; rfl, HK1.out⟩
  have HLEN := hid e3
  clear a0 a1 a2 b0 b1 b2
  rw [← e3] at HC
  obtain ⟨a0, a1, a2, b0, b1, b2⟩ := HC.out w1 (Keep.refl _ _)
  obtain ⟨n, hn⟩ : ∃ n, rs.length = n := ⟨_, rfl⟩
  have HN := hid hn
  rw [hn] at HC a2 b2 hl
  have g3 : ((n : Int) != (n : Int)) = false := by simp
  have g4 : (n != n) = false := by simp
  clear e3 hn
  go_wp2_with fail
  clear a0 a1 a2 b0 b1 b2 g1 g2 g3 g4
  go_loopw [5] (fun i wr => ∃ k : Nat, k ≤ n ∧ i = iV k ∧ rs.take k = us.take k ∧ Keep (fun _ => False) w1 wr) (fun i _ => n + 1 - (intOf i).toNat)
  case atStart => exact ⟨0, Nat.zero_le _, rfl, rfl, Keep.refl _ _⟩
  case round =>
    obtain ⟨k, hk, rfl, htk, hkr⟩ := hrel
    have HT := hid htk; have HKR := hid hkr
    clear htk hkr
    generalize wr = wo at *
    obtain ⟨_, _, a2, _, _, b2⟩ := HC.out wo HKR.out
    by_cases hlt : k < n
    · obtain ⟨x, hxk⟩ : ∃ x, rs[k]? = some x := ⟨rs[k]'(by rw [HN.out]; exact hlt), by simp [HN.out, hlt]⟩
      obtain ⟨y, hyk⟩ : ∃ y, us[k]? = some y := ⟨us[k]'(by rw [← HLEN.out, HN.out]; exact hlt), by simp [← HLEN.out, HN.out, hlt]⟩
      have HXL := hid (HL.out x (List.mem_of_getElem? hxk))
      have HNX : Hid (x = y → rs.take (k + 1) = us.take (k + 1)) := hid (take_eqR HT.out hxk hyk)
      have HXY : Hid (x ≠ y → R = false) := hid (fun h => HN2.out (fun e => h (by rw [e, hyk] at hxk; exact (Option.some.inj hxk).symm)))
      obtain ⟨xb, xo, xp, xc, rfl, hxb, x0, x1, x2, _, hxe⟩ := UP.at (HUA.out wo (HK1.out.trans HKR.out)) hxk
      obtain ⟨yb, yo, yp, yc, rfl, hyb, y0, y1, y2, _, hye⟩ := UP.at (HUB.out wo (HK1.out.trans HKR.out)) hyk
      have hin : (0 : Int) ≤ (k : Int) ∧ (k : Int) < (n : Int) := ⟨by omega, by omega⟩
      obtain ⟨w4, hw4, hb4, hs4, hk4⟩ := box1 wo #[.int .i64 x.new, .int .i64 x.old, .slice xp x.exprs.length xc] 51
      obtain ⟨w5, hw5, hb5, hs5, hk5⟩ := box1 w4 #[.int .i64 y.new, .int .i64 y.old, .slice yp y.exprs.length yc] 51
      have HK5 := hid (HKR.out.trans (hk4.trans hk5))
      have HCX : Hid (∀ wy, Keep (fun _ => False) w5 wy → wy.cell? ⟨wo.heap.size, 0, none⟩ = some (.int .i64 x.new) ∧ wy.cell? ⟨wo.heap.size, 1, none⟩ = some (.int .i64 x.old) ∧ wy.cell? ⟨wo.heap.size, 2, none⟩ = some (.slice xp x.exprs.length xc) ∧ wy.cell? ⟨w4.heap.size, 0, none⟩ = some (.int .i64 y.new) ∧ wy.cell? ⟨w4.heap.size, 1, none⟩ = some (.int .i64 y.old) ∧ wy.cell? ⟨w4.heap.size, 2, none⟩ = some (.slice yp y.exprs.length yc)) := hid (fun wy hk =>
        ⟨cell_of ((hk5.trans hk).get hb4 (fun e => e)) (by rfl), cell_of ((hk5.trans hk).get hb4 (fun e => e)) (by rfl), cell_of ((hk5.trans hk).get hb4 (fun e => e)) (by rfl), cell_of (hk.get hb5 (fun e => e)) (by rfl), cell_of (hk.get hb5 (fun e => e)) (by rfl), cell_of (hk.get hb5 (fun e => e)) (by rfl)⟩)
      have HEX : Hid (∀ wy, Keep (fun _ => False) w5 wy → EP wy wy.heap.size xp x.exprs) := hid (fun wy hk => EP.mono (EP.low hxe (Low.keep0 ((hk4.trans hk5).trans hk))) ((hk4.trans hk5).trans hk).size)
      have HEY : Hid (∀ wy, Keep (fun _ => False) w5 wy → EP wy wy.heap.size yp y.exprs) := hid (fun wy hk => EP.mono (EP.low hye (Low.keep0 ((hk4.trans hk5).trans hk))) ((hk4.trans hk5).trans hk).size)
      have hl4 := Low.keep0 hk4
      have b2' := (HC.out w4 (HKR.out.trans hk4)).2.2.2.2.2
      have y0' := (hl4.cell (o := yo + k * 3) hyb).trans y0
      have y1' := (hl4.cell (o := yo + k * 3 + 1) hyb).trans y1
      have y2' := (hl4.cell (o := yo + k * 3 + 2) hyb).trans y2
      clear hxk hyk hxe hye hb4 hb5 hs4 hs5 hk4 hk5 hl4
      go_upto_region 7 with fail
      rw [← hw4]
      clear hw4 a2 b2 x0 x1 x2 y0 y1 y2
      go_upto_region 8 with fail
      rw [← hw5]
      clear hw5 b2' y0' y1' y2' hxb hyb
      generalize w4.heap.size = yk at *
      generalize wo.heap.size = xk at *
      obtain ⟨xn, xd, es⟩ := x
      obtain ⟨yn, yd, fs⟩ := y
      simp only at HCX HEX HEY
      obtain ⟨c0, c1, c2, d0, d1, d2⟩ := HCX.out w5 (Keep.refl _ _)
      by_cases e1 : xn = yn
      rotate_left
      · have g1 : (xn != yn) = true := bne_iff_ne.2 e1
        have G := hid (HXY.out (fun h => e1 (by injection h)))
        clear e1 HXY HNX
        go_wp2
        go_ret
        exact ⟨by rw [G.out]; rfl, HK1.out.trans HK5.out⟩
      subst e1
      have g1 : (xn != xn) = false := by simp
      by_cases e2 : xd = yd
      rotate_left
      · have g2 : (xd != yd) = true := bne_iff_ne.2 e2
        have G := hid (HXY.out (fun h => e2 (by injection h)))
        clear e2 HXY HNX
        go_wp2
        go_ret
        exact ⟨by rw [G.out]; rfl, HK1.out.trans HK5.out⟩
      subst e2
      have g2 : (xd != xd) = false := by simp
      by_cases e3 : es.length = fs.length
      rotate_left
      · have g3 : ((es.length : Int) != (fs.length : Int)) = true := by rw [bne_iff_ne]; omega
        have g4 : (es.length != fs.length) = true := by rw [bne_iff_ne]; exact e3
        have G := hid (HXY.out (fun h => e3 (by injection h with _ _ h; rw [h])))
        clear e3 HXY HNX
        go_wp2
        go_ret
        exact ⟨by rw [G.out]; rfl, HK1.out.trans HK5.out⟩
      have HEL := hid e3
      have HNE2 : Hid (es = fs → rs.take (k + 1) = us.take (k + 1)) := hid (fun h => HNX.out (by rw [h]))
      have HNF : Hid (es ≠ fs → R = false) := hid (fun h => HXY.out (fun e => h (by injection e)))
      rw [← e3] at HCX
      clear c0 c1 c2 d0 d1 d2 HXY HNX
      obtain ⟨c0, c1, c2, d0, d1, d2⟩ := HCX.out w5 (Keep.refl _ _)
      obtain ⟨m, hm⟩ : ∃ m, es.length = m := ⟨_, rfl⟩
      have HM := hid hm
      have hm65 : m ≤ 65536 := by have h := HXL.out.1; simp only at h; omega
      rw [hm] at HCX c2 d2
      have g3 : ((m : Int) != (m : Int)) = false := by simp
      have g4 : (m != m) = false := by simp
      have HCL : Hid (∀ e ∈ es, e.length ≤ 65536) := hid (fun e he => HXL.out.2 e he)
      clear e3 hm HXL
      go_wp2_with fail
      clear c0 c1 c2 d0 d1 d2 g1 g2 g3 g4
      go_loopw [8] (fun i wr => ∃ j : Nat, j ≤ m ∧ i = iV j ∧ es.take j = fs.take j ∧ Keep (fun _ => False) w5 wr) (fun i _ => m + 1 - (intOf i).toNat)
      case atStart => exact ⟨0, Nat.zero_le _, rfl, rfl, Keep.refl _ _⟩
      case round =>
        obtain ⟨j, hj, rfl, htj, hkj⟩ := hrel
        have HTJ := hid htj; have HKJ := hid hkj
        clear htj hkj
        generalize wr = wi at *
        obtain ⟨c0, c1, c2, d0, d1, d2⟩ := HCX.out wi HKJ.out
        by_cases hltj : j < m
        · obtain ⟨e, hej⟩ : ∃ e, es[j]? = some e := ⟨es[j]'(by rw [HM.out]; exact hltj), by simp [HM.out, hltj]⟩
          obtain ⟨f, hfj⟩ : ∃ f, fs[j]? = some f := ⟨fs[j]'(by rw [← HEL.out, HM.out]; exact hltj), by simp [← HEL.out, HM.out, hltj]⟩
          have HECL := hid (HCL.out e (List.mem_of_getElem? hej))
          have HNJ : Hid (e = f → es.take (j + 1) = fs.take (j + 1)) := hid (take_eqR HTJ.out hej hfj)
          have HNG : Hid (e ≠ f → R = false) := hid (fun h => HNF.out (fun h2 => h (by rw [h2, hfj] at hej; exact (Option.some.inj hej).symm)))
          have hin2 : (0 : Int) ≤ (j : Int) ∧ (j : Int) < (m : Int) := ⟨by omega, by omega⟩
          obtain ⟨eb, eo, ep, ec, rfl, heb, u0, _, hei⟩ := EP.at (HEX.out wi HKJ.out) hej
          obtain ⟨fb, fo, fp, fc, rfl, hfb, v0, _, hfi⟩ := EP.at (HEY.out wi HKJ.out) hfj
          have HCC : Hid (∀ wy, Keep (fun _ => False) wi wy → wy.cell? ⟨xk, 2, none⟩ = some (.slice (some ⟨eb, eo, none⟩) m xc) ∧ wy.cell? ⟨yk, 2, none⟩ = some (.slice (some ⟨fb, fo, none⟩) m yc) ∧ wy.cell? ⟨eb, eo + j, none⟩ = some (.slice ep e.length ec) ∧ wy.cell? ⟨fb, fo + j, none⟩ = some (.slice fp f.length fc)) := hid (fun wy hk => by
            obtain ⟨_, _, h2, _, _, h3⟩ := HCX.out wy (HKJ.out.trans hk)
            exact ⟨h2, h3, ((Low.keep0 hk).cell (o := eo + j) heb).trans u0, ((Low.keep0 hk).cell (o := fo + j) hfb).trans v0⟩)
          have HIE : Hid (∀ wy, Keep (fun _ => False) wi wy → IP wy wy.heap.size ep e) := hid (fun wy hk => IP.mono (IP.low hei (Low.keep0 hk)) hk.size)
          have HIF : Hid (∀ wy, Keep (fun _ => False) wi wy → IP wy wy.heap.size fp f) := hid (fun wy hk => IP.mono (IP.low hfi (Low.keep0 hk)) hk.size)
          clear hej hfj hei hfi u0 v0 heb hfb
          go_upto_region 13 with fail
          clear c0 c1 c2 d0 d1 d2
          have HKD := hid (Keep.refl (fun _ => False) wi).drew
          refine Plan.wp_region_pl [(false, 0, []), (false, 1, []), (false, 2, []), (false, 3, []), (false, 4, []), (false, 5, []), (false, 6, []), (false, 7, []), (false, 8, []), (false, 9, []), (false, 10, []), (false, 11, []), (false, 12, [])] (by as_aux_lemma => kernel_rfl) (by as_aux_lemma => kernel_rfl) ?_
          generalize wi.drew = wd at *
          obtain ⟨c2, d2, u0, v0⟩ := HCC.out wd HKD.out
          by_cases e3 : e.length = f.length
          rotate_left
          · have g3 : ((e.length : Int) != (f.length : Int)) = true := by rw [bne_iff_ne]; omega
            have g4 : (e.length != f.length) = true := by rw [bne_iff_ne]; exact e3
            have G := hid (HNG.out (fun h => e3 (by rw [h])))
            have HKF := hid (HK1.out.trans (HK5.out.trans (HKJ.out.trans HKD.out)))
            clear e3 HNG HNJ
            iterate 13 (refine Plan.pl_st rfl ?_; go_big_quiet_step (fail); refine wpQuiet_nil ?_)
            refine Plan.pl_end ?_
            clear c2 d2 u0 v0
            go_wp2
            go_ret
            exact ⟨by rw [G.out]; rfl, HKF.out⟩
          have HEF := hid e3
          rw [← e3] at HCC
          clear c2 d2 u0 v0
          obtain ⟨c2, d2, u0, v0⟩ := HCC.out wd HKD.out
          obtain ⟨l, hll⟩ : ∃ l, e.length = l := ⟨_, rfl⟩
          have HLL := hid hll
          have hl65 : l ≤ 65536 := by have h := HECL.out; omega
          rw [hll] at HCC u0 v0
          have g3 : ((l : Int) != (l : Int)) = false := by simp
          have g4 : (l != l) = false := by simp
          clear e3 hll HECL
          iterate 13 (refine Plan.pl_st rfl ?_; go_big_quiet_step (fail); refine wpQuiet_nil ?_)
          refine Plan.pl_end ?_
          clear c2 d2 u0 v0 g3 g4
          go_wp2_with fail
          go_loopw [9] (fun i wr => ∃ t : Nat, t ≤ l ∧ i = iV t ∧ e.take t = f.take t ∧ Keep (fun _ => False) wi wr) (fun i _ => l + 1 - (intOf i).toNat)
          case atStart => exact ⟨0, Nat.zero_le _, rfl, rfl, HKD.out⟩
          case round =>
            obtain ⟨t, ht, rfl, htt, hkt⟩ := hrel
            have HTT := hid htt; have HKT := hid hkt
            clear htt hkt
            generalize wr = wz at *
            obtain ⟨c2, d2, u0, v0⟩ := HCC.out wz HKT.out
            by_cases hltt : t < l
            · obtain ⟨g, hgt⟩ : ∃ g, e[t]? = some g := ⟨e[t]'(by rw [HLL.out]; exact hltt), by simp [HLL.out, hltt]⟩
              obtain ⟨h, hht⟩ : ∃ h, f[t]? = some h := ⟨f[t]'(by rw [← HEF.out, HLL.out]; exact hltt), by simp [← HEF.out, HLL.out, hltt]⟩
              have HNT : Hid (g = h → e.take (t + 1) = f.take (t + 1)) := hid (take_eqR HTT.out hgt hht)
              have HNH : Hid (g ≠ h → R = false) := hid (fun h1 => HNG.out (fun h2 => h1 (by rw [h2, hht] at hgt; exact (Option.some.inj hgt).symm)))
              have hin3 : (0 : Int) ≤ (t : Int) ∧ (t : Int) < (l : Int) := ⟨by omega, by omega⟩
              have HKZ := hid HKT.out.drew
              go_upto_region 18 with fail
              clear c2 d2 u0 v0
              refine Plan.wp_region_pl [(false, 0, []), (false, 1, []), (false, 2, []), (false, 3, []), (false, 4, []), (false, 5, []), (false, 6, []), (false, 7, []), (false, 8, []), (false, 9, []), (false, 10, []), (false, 11, []), (false, 12, []), (false, 13, []), (false, 14, []), (false, 15, []), (false, 16, [])] (by as_aux_lemma => kernel_rfl) (by as_aux_lemma => kernel_rfl) ?_
              generalize wz.drew = wq at *
              obtain ⟨c2, d2, u0, v0⟩ := HCC.out wq HKZ.out
              obtain ⟨gb, go, rfl, _, p0, p1, p2, p3, p4, p5⟩ := IP.at (HIE.out wq HKZ.out) hgt
              obtain ⟨hb, ho, rfl, _, q0, q1, q2, q3, q4, q5⟩ := IP.at (HIF.out wq HKZ.out) hht
              clear hgt hht
              have HKF := hid (HK1.out.trans (HK5.out.trans (HKJ.out.trans HKZ.out)))
              iterate 16 (refine Plan.pl_st rfl ?_; go_big_quiet_step (fail); refine wpQuiet_nil ?_)
              clear c2 d2 u0 v0 p0 p1 p2 p3 p4 p5 q0 q1 q2 q3 q4 q5
              by_cases hgh : g = h
              · have G := hid (HNT.out hgh)
                subst hgh
                refine Plan.pl_st rfl ?_
                refine quiet_neqC rfl _ _ _ _ _ _ _ rfl rfl rfl (by kernel_rfl) (neq_ins11a g wq) ?_
                refine wpQuiet_nil ?_
                refine Plan.pl_end ?_
                go_wp2
                go_roundw
                case rel => exact ⟨t + 1, by omega, by go_num, G.out, HKZ.out⟩
                case measure => simp [intOf]; omega
              · have G := hid (HNH.out hgh)
                refine Plan.pl_st rfl ?_
                refine quiet_neqC rfl _ _ _ _ _ _ _ rfl rfl rfl (by kernel_rfl) (neq_ins11b hgh wq) ?_
                refine wpQuiet_nil ?_
                refine Plan.pl_end ?_
                clear hgh
                go_wp2
                go_ret
                exact ⟨by rw [G.out]; rfl, HKF.out⟩
            · obtain rfl : t = l := by omega
              have g0 : decide ((t : Int) < (t : Int)) = false := decide_eq_false (by omega)
              have G : Hid (es.take (j + 1) = fs.take (j + 1)) := hid (HNJ.out (by have h := HTT.out; have h1 := HLL.out; have h2 := HEF.out; rwa [List.take_of_length_le (by omega), List.take_of_length_le (by omega)] at h))
              go_wp2
              go_roundw
              case rel => exact ⟨j + 1, by omega, by go_num, G.out, HKJ.out.trans HKT.out⟩
              case measure => simp [intOf]; omega
        · obtain rfl : j = m := by omega
          have g0 : decide ((j : Int) < (j : Int)) = false := decide_eq_false (by omega)
          have G : Hid (rs.take (k + 1) = us.take (k + 1)) := hid (HNE2.out (by have h := HTJ.out; have h1 := HM.out; have h2 := HEL.out; rwa [List.take_of_length_le (by omega), List.take_of_length_le (by omega)] at h))
          go_wp2
          go_roundw
          case rel => exact ⟨k + 1, by omega, by go_num, G.out, HK5.out.trans HKJ.out⟩
          case measure => simp [intOf]; omega
    · obtain rfl : k = n := by omega
      have g0 : decide ((k : Int) < (k : Int)) = false := decide_eq_false (by omega)
      have G : Hid (R = true) := hid (HY2.out (by have h := HT.out; have h1 := HN.out; have h2 := HLEN.out; rwa [List.take_of_length_le (by omega), List.take_of_length_le (by omega)] at h))
      go_wp2
      go_ret
      exact ⟨by rw [G.out]; rfl, HK1.out.trans HKR.out⟩
end Go.Proofs.YtlhdofkgcbmnnaaGreatDoor
