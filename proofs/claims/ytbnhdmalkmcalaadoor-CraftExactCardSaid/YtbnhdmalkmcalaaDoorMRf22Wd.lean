/- What is proved: the reference's words. -/
import Derived.Test.YtbnhdmalkmcalaaDoorMCrSame
import Derived.Test.YtbnhdmalkmcalaaDoorMCr1
import Derived.Test.YtbnhdmalkmcalaaDoorMHeap
import Derived.Laws.Rows
import Derived.Laws.Tables
import Derived.Deep.Cut
import Derived.Deep.CutRange
import Derived.Test.YtbnhdmalkmcalaaDoorMRf22d
import Derived.Test.YtbnhdmalkmcalaaDoorMCrLines
namespace Go.Proofs.YtbnhdmalkmcalaaDoor
open Go.RowKit Go.Proofs.Heap Go.Proofs.Sch

/-- The words, as they lie in memory. -/
def wordsA : Array Value := ((List.range 24).map fun k => Value.string (wordC k)).toArray
theorem wordsA_at {k : Nat} (h : k < 24) : wordsA[k]? = some (.string (wordC k)) := by simp [wordsA, h]
theorem wordsA_size : wordsA.size = 24 := by simp [wordsA]
theorem wordsA_one : ∀ v ∈ wordsA.toList, v.oneCell' = true := by
  intro v hv
  simp only [wordsA, List.mem_map] at hv
  obtain ⟨j, _, rfl⟩ := hv
  rfl
theorem wordsA_lit : wordsA = #[.string ⟨#[]⟩, .string ⟨#[112, 117, 115, 104]⟩, .string ⟨#[108, 111, 97, 100]⟩, .string ⟨#[115, 116, 111, 114, 101]⟩, .string ⟨#[97, 100, 100]⟩, .string ⟨#[115, 117, 98]⟩, .string ⟨#[109, 117, 108]⟩, .string ⟨#[113, 117, 111]⟩, .string ⟨#[114, 101, 109]⟩, .string ⟨#[110, 101, 103]⟩, .string ⟨#[115, 97, 109, 101]⟩, .string ⟨#[108, 101, 115, 115]⟩, .string ⟨#[110, 111, 116]⟩, .string ⟨#[100, 117, 112]⟩, .string ⟨#[100, 114, 111, 112]⟩, .string ⟨#[115, 119, 97, 112]⟩, .string ⟨#[106, 117, 109, 112]⟩, .string ⟨#[115, 107, 105, 112]⟩, .string ⟨#[115, 101, 108, 102]⟩, .string ⟨#[107, 105, 108, 108]⟩, .string ⟨#[103, 105, 118, 101]⟩, .string ⟨#[116, 97, 107, 101]⟩, .string ⟨#[109, 97, 107, 101]⟩, .string ⟨#[104, 97, 108, 116]⟩] := by kernel_rfl
def wordsZ : Array Value := ((List.range 24).map fun _ => Value.string ⟨#[]⟩).toArray
theorem wordsZ_size : wordsZ.size = 24 := by simp [wordsZ]
theorem zero_words (w : World) : (zeroValue 107).run Tryd.prog w = .ok (.agg wordsZ) w := by kernel_rfl
theorem info_words : (Tryd.prog.info? 107).map (·.size) = some 24 := by kernel_rfl
theorem words_store {w : World} {u : Nat} (hu : w.heap[u]? = some (.cells wordsZ 107 (0, 0))) :
    ∃ w', (storeCells ⟨u, 0, none⟩ wordsA.toList).run Tryd.prog w = .ok () w' ∧ w'.heap[u]? = some (.cells wordsA 107 (0, 0)) ∧ Keep (fun j => j = u) w w' := by
  have h := run_storeCells_at Tryd.prog u 0 _ wordsA.toList 0 _ w hu (by rw [Array.length_toList, wordsA_size, wordsZ_size]; omega) wordsA_one
  refine ⟨_, h, ?_, ?_⟩
  · refine (setRow_heap w u _ _ _ _ hu).trans ?_
    have e : (List.take 0 wordsZ.toList ++ wordsA.toList ++ List.drop (0 + wordsA.toList.length) wordsZ.toList).toArray = wordsA := by
      apply Array.ext'
      have h1 : wordsZ.toList.length = 24 := by rw [Array.length_toList, wordsZ_size]
      have h2 : wordsA.toList.length = 24 := by rw [Array.length_toList, wordsA_size]
      simp [h1, h2]
    exact congrArg (fun c => some (Obj.cells c 107 (0, 0))) e
  · exact (Keep.refl (fun j => j = u) w).setRow rfl _
theorem words_new (w : World) :
    ∃ w', (storeCells ⟨w.heap.size, 0, none⟩ wordsA.toList).run Tryd.prog (w.alloc (.cells wordsZ 107)) = .ok () w' ∧ w'.heap[w.heap.size]? = some (.cells wordsA 107 (0, 0)) ∧ Keep (fun _ => False) w w' ∧ w.heap.size < w'.heap.size := by
  obtain ⟨w', h, hb, hk⟩ := words_store (heap_alloc_new w (.cells wordsZ 107))
  refine ⟨w', h, hb, keep_new ((Keep.refl _ w).alloc _) hk (fun k e => by omega), ?_⟩
  have := hk.size
  simp at this
  omega

set_option maxRecDepth 20000 in
set_option maxHeartbeats 4000000 in
theorem r_words22 (w : World) : Calls Tryd.prog 62 #[] w fun r w' => r = .returned (.agg wordsA) ∧ Keep (fun _ => False) w w' := by
  have hz := zero_words
  have hsz := wordsZ_size
  obtain ⟨wa, hwa⟩ : ∃ wa, w.alloc (.cells wordsZ 107) = wa := ⟨_, rfl⟩
  have hba : wa.heap[w.heap.size]? = some (.cells wordsZ 107 (0, 0)) := by rw [← hwa]; exact heap_alloc_new w _
  have hka : Keep (fun _ => False) w wa := by rw [← hwa]; exact (Keep.refl _ w).alloc _
  obtain ⟨w3, hst, hb3, hk3⟩ := words_store hba
  have HK3 := hid (keep_new hka hk3 (fun k e => by omega))
  have HB3 := hid hb3; have HL := hid wordsA_lit
  clear hba hka hb3 hk3
  go_enter Tryd.func62, Tryd.ntmps62
  go_upto_region 1 with fail
  clear hwa
  clear hz
  go_wp2_with (rw [← HL.out])
  (try simp only [Exit.inBlock, Exit.then])
  refine bodyPost_ret (results_cell_row rfl _ _ _ _ _ _ _ rfl HB3.out Tryd.underlying107 rfl (by rw [info_words, wordsA_size])) rfl ?_
  exact ⟨rfl, HK3.out⟩
end Go.Proofs.YtbnhdmalkmcalaaDoor

namespace Go.Proofs.YtbnhdmalkmcalaaDoor
open Go.RowKit Go.Proofs.Heap Go.Proofs.Sch

/-- The first line, so many names in. -/
def headB (s : VSys) (k : Nat) : ByteArray := joinB ([⟨#[115, 121, 115, 116, 101, 109]⟩, s.name, itB s.stage] ++ (if k = 0 then [] else ⟨#[97, 102, 116, 101, 114]⟩ :: s.after.take k)) 32
theorem head_0 (s : VSys) : ⟨#[115, 121, 115, 116, 101, 109, 32]⟩ ++ s.name ++ ⟨#[32]⟩ ++ itB s.stage = headB s 0 := by
  unfold headB
  rw [if_pos rfl, List.append_nil]
  have e1 : joinB [⟨#[115, 121, 115, 116, 101, 109]⟩, s.name, itB s.stage] 32 = joinB ([⟨#[115, 121, 115, 116, 101, 109]⟩, s.name] ++ [itB s.stage]) 32 := rfl
  have e2 : joinB [⟨#[115, 121, 115, 116, 101, 109]⟩, s.name] 32 = joinB ([⟨#[115, 121, 115, 116, 101, 109]⟩] ++ [s.name]) 32 := rfl
  rw [e1, joinB_next _ _ (by simp), e2, joinB_next _ _ (by simp), joinB_one]
  rfl
theorem head_1 {s : VSys} {t : ByteArray} (h : s.after[0]? = some t) : headB s 0 ++ ⟨#[32, 97, 102, 116, 101, 114]⟩ ++ ⟨#[32]⟩ ++ t = headB s 1 := by
  unfold headB
  rw [if_pos rfl, if_neg (by decide), List.append_nil, take_next h, List.take_zero, List.nil_append]
  have e : ([⟨#[115, 121, 115, 116, 101, 109]⟩, s.name, itB s.stage] ++ [(⟨#[97, 102, 116, 101, 114]⟩ : ByteArray), t] : List ByteArray) = (([⟨#[115, 121, 115, 116, 101, 109]⟩, s.name, itB s.stage] ++ [⟨#[97, 102, 116, 101, 114]⟩]) ++ [t]) := rfl
  rw [e, joinB_next _ _ (by simp), joinB_next _ _ (by simp)]
  apply ba_inj
  simp only [ByteArray.data_append, Array.toList_append, List.append_assoc]
  rfl
theorem head_n {s : VSys} {t : ByteArray} {k : Nat} (h : s.after[k]? = some t) (hk : k ≠ 0) : headB s k ++ ⟨#[32]⟩ ++ t = headB s (k + 1) := by
  unfold headB
  rw [if_neg hk, if_neg (by omega), take_next h, ← List.cons_append, ← List.append_assoc, joinB_next _ _ (by simp)]
theorem head_all (s : VSys) : headB s s.after.length = joinB (headT s) 32 := by
  unfold headB headT
  by_cases h : s.after = []
  · rw [if_pos (by rw [h]; rfl), if_pos h]
  · rw [if_neg (fun e => h (List.eq_nil_of_length_eq_zero e)), if_neg h, List.take_length]
theorem headB_size {s : VSys} (h : OkY s) (k : Nat) : (headB s k).size ≤ 176 := by
  unfold headB
  refine Nat.le_trans (joinB_size (M := 21) fun t ht => ?_) ?_
  · rcases List.mem_append.1 ht with h1 | h1
    · exact head_size h t (by unfold headT; exact List.mem_append_left _ h1)
    · split at h1
      · simp at h1
      · rcases List.mem_cons.1 h1 with rfl | h2
        · decide
        · have := nameB_size (h.afn (List.mem_of_mem_take h2)); omega
  · rw [List.length_append]
    split
    · simp
    · simp only [List.length_cons, List.length_nil, List.length_take]
      have := h.afl
      omega
theorem opLine_2 (k : Nat) (x : VOp) : joinB [itB (k : Int), wordI x.code] 32 = itB (k : Int) ++ ⟨#[32]⟩ ++ wordI x.code := by
  have e : joinB [itB (k : Int), wordI x.code] 32 = joinB ([itB (k : Int)] ++ [wordI x.code]) 32 := rfl
  rw [e, joinB_next _ _ (by simp), joinB_one]

theorem it_size (n : Int) (h0 : -9223372036854775808 ≤ n) (h1 : n ≤ 9223372036854775807) : (itB n).size ≤ 21 := by
  have h := Lib.itoa_length_le n h0 h1
  simpa [itB, ByteArray.size] using h
theorem codeB_nat {cn : Nat} (h : 1 ≤ cn ∧ cn < 24) : codeB (cn : Int) = true := by unfold codeB; exact decide_eq_true (by omega)
theorem opL_0 (k : Nat) (x : VOp) (h : namesN x.code = 0) : opLine k x = itB (k : Int) ++ ⟨#[32]⟩ ++ wordI x.code := by
  rw [← opLine_2]; unfold opLine opT argsL; rw [h]; rfl
theorem opL_1 (k : Nat) (x : VOp) (h : namesN x.code = 1) : opLine k x = itB (k : Int) ++ ⟨#[32]⟩ ++ wordI x.code ++ ⟨#[32]⟩ ++ itB x.k := by
  rw [← opLine_2, ← joinB_next _ _ (by simp)]; unfold opLine opT argsL; rw [h]; rfl
theorem opL_2 (k : Nat) (x : VOp) (h : namesN x.code = 2) : opLine k x = itB (k : Int) ++ ⟨#[32]⟩ ++ wordI x.code ++ ⟨#[32]⟩ ++ itB x.a := by
  rw [← opLine_2, ← joinB_next _ _ (by simp)]; unfold opLine opT argsL; rw [h]; rfl
theorem opL_3 (k : Nat) (x : VOp) (h : namesN x.code = 3) : opLine k x = itB (k : Int) ++ ⟨#[32]⟩ ++ wordI x.code ++ ⟨#[32]⟩ ++ itB x.a ++ ⟨#[32]⟩ ++ itB x.b ++ ⟨#[32]⟩ ++ itB x.c := by
  rw [← opLine_2, ← joinB_next _ _ (by simp), ← joinB_next _ _ (by simp), ← joinB_next _ _ (by simp)]; unfold opLine opT argsL; rw [h]; rfl
theorem names_no {n : Int} {cn : Nat} (h : n = (cn : Int)) (n1 : cn ≠ 2) (n2 : cn ≠ 3) (n3 : cn ≠ 20) (n4 : cn ≠ 21) (n5 : cn ≠ 22) (n6 : cn ≠ 1) (n7 : cn ≠ 16) (n8 : cn ≠ 17) : namesN n = 0 := by
  unfold namesN
  rw [if_neg (by omega), if_neg (by omega), if_neg (by omega)]

set_option maxRecDepth 20000 in
set_option maxHeartbeats 32000000 in
theorem r_lines22 (s : VSys) (pa : Option Addr) (ca : Nat) (pc : Option Addr) (cc : Nat) (w : World) (h1 : s.all < 4294967296) (h2 : s.none < 4294967296) (ha : TP w w.heap.size pa s.after) (hc : VP w w.heap.size pc s.code) (hk : ∀ x ∈ s.code, IB x.k) :
    Calls Tryd.prog 18 #[SysV s pa ca pc cc] w (TxtR (linesY s) w) := by
  obtain ⟨i0, hi0, hz0, hz1, hz2⟩ := info_parts' info_strT
  have HIK := hid hk
  have HTA := hid (fun (wy : World) (hk : Keep (fun _ => False) w wy) => TP.low ha (Low.keep0 hk))
  have HVC := hid (fun (wy : World) (hk : Keep (fun _ => False) w wy) => VP.low hc (Low.keep0 hk))
  have HCK := hid (fun (wy : World) (hk : Keep (fun _ => False) w wy) => r_check22 s pa ca pc cc wy h1 h2 (TP.mono (TP.low ha (Low.keep0 hk)) hk.size) (VP.mono (VP.low hc (Low.keep0 hk)) hk.size))
  have HQA := hid (fun w => r_text10 s.all h1 w)
  have HQB := hid (fun w => r_text10 s.none h2 w)
  obtain ⟨w1, hw1, hb1, hs1, hk1⟩ := box1 w (SysC s pa ca pc cc) 32
  have HK1 := hid hk1; have HS1 := hid hb1
  have HWB := hid (Nat.le_refl w.heap.size)
  clear hb1 hs1 hk1 h1 h2 ha hc hk
  go_enter Tryd.func18, Tryd.ntmps18
  go_upto_region 1 with fail
  rw [← hw1]
  clear hw1
  generalize hsb : w.heap.size = sb at *
  have c0 := cell_of HS1.out (i := 0) (by rfl)
  have c1 := cell_of HS1.out (i := 1) (by rfl)
  have c2 := cell_of HS1.out (i := 2) (by rfl)
  have c3 := cell_of HS1.out (i := 3) (by rfl)
  have c4 := cell_of HS1.out (i := 4) (by rfl)
  have c5 := cell_of HS1.out (i := 5) (by rfl)
  go_wp2_with fail
  refine (HCK.out w1 HK1.out).mono ?_
  rintro r w2 ⟨rfl, hk2⟩
  have HS2 := hid (hk2.get HS1.out id); have HK2 := hid (HK1.out.trans hk2)
  clear hk2 c0 c1 c2 c3 c4 c5
  by_cases hz : sysC s = 0
  rotate_left
  · have HE : Hid (linesY s = []) := hid (if_neg hz)
    obtain ⟨R, hR⟩ : ∃ R, sysC s = R := ⟨_, rfl⟩
    rw [hR] at hz ⊢
    have g1 : ((R : Int) != 0) = true := by rw [bne_iff_ne]; omega
    have g2 : (R != 0) = true := by rw [bne_iff_ne]; exact hz
    clear hz hR
    go_wp2
    go_ret
    unfold TxtR
    rw [HE.out]
    exact ⟨none, 0, rfl, World.ownsRow_nil _ _ _ _, HK2.out⟩
  have HOK := hid (sys_oky hz)
  have HE : Hid (linesY s = headB s s.after.length :: queryL s :: s.code.mapIdx opLine) := hid (by rw [head_all]; exact if_pos hz)
  rw [hz]
  clear hz
  have HSD := hid (fun w => rf_dig s.stage (by have := HOK.out.stage.1; omega) (by have := HOK.out.stage.2; omega) w)
  have H0 := hid (head_0 s)
  have zn := nameB_size HOK.out.name
  have zt : (itB s.stage).size ≤ 21 := by
    have h := Lib.itoa_length_le s.stage (by have := HOK.out.stage.1; omega) (by have := HOK.out.stage.2; omega)
    simpa [itB, ByteArray.size] using h
  obtain ⟨ti, hti⟩ : ∃ ti, itB s.stage = ti := ⟨_, rfl⟩
  rw [hti] at HSD H0 zt
  clear hti
  have y1 : ¬ (9223372036854775807 < 7 + s.name.size) := by omega
  have y2 : ¬ (9223372036854775807 < 7 + s.name.size + 1) := by omega
  have y3 : ¬ (9223372036854775807 < 7 + s.name.size + 1 + ti.size) := by omega
  go_upto_region 3 with fail
  have HS3 : Hid (w2.drew.heap[sb]? = some (.cells (SysC s pa ca pc cc) 32 (0, 0))) := HS2
  have HK3 := hid HK2.out.drew
  refine Plan.wp_region_pl [(false, 0, []), (false, 1, []), (false, 2, []), (false, 3, []), (false, 4, []), (false, 5, []), (true, 6, [3, 2, 1, 0]), (false, 7, []), (false, 8, [])] (by as_aux_lemma => kernel_rfl) (by as_aux_lemma => kernel_rfl) ?_
  generalize w2.drew = w3 at *
  have c0 := cell_of HS3.out (i := 0) (by rfl)
  have c1 := cell_of HS3.out (i := 1) (by rfl)
  have c2 := cell_of HS3.out (i := 2) (by rfl)
  have c3 := cell_of HS3.out (i := 3) (by rfl)
  have c4 := cell_of HS3.out (i := 4) (by rfl)
  have c5 := cell_of HS3.out (i := 5) (by rfl)
  iterate 6 (refine Plan.pl_st rfl ?_; go_big_quiet_step (fail); refine wpQuiet_nil ?_)
  refine Plan.pl_ac rfl ?_
  go_wp2_with fail
  refine (HSD.out w3).mono ?_
  rintro r w4 ⟨rfl, hk⟩
  have HS4 := hid (hk.get HS3.out id); have HK4 := hid (HK3.out.trans hk)
  clear hk c0 c1 c2 c3 c4 c5
  have c0 := cell_of HS4.out (i := 0) (by rfl)
  have c1 := cell_of HS4.out (i := 1) (by rfl)
  have c2 := cell_of HS4.out (i := 2) (by rfl)
  have c3 := cell_of HS4.out (i := 3) (by rfl)
  have c4 := cell_of HS4.out (i := 4) (by rfl)
  have c5 := cell_of HS4.out (i := 5) (by rfl)
  go_wp2
  refine Plan.plQ_mk ?_ ?_
  · iterate 4 (refine Plan.chk_st rfl ?_ ?_; focus (go_big_quiet_step (fail); exact wpQuiet_nil rfl))
    exact Plan.chk_end
  iterate 2 (refine Plan.pl_st rfl ?_; go_big_quiet_step (fail); refine wpQuiet_nil ?_)
  refine Plan.pl_end ?_
  rw [H0.out]
  clear y1 y2 y3 c0 c1 c2 c3 c4 c5 zn zt HSD H0
  have hal := HOK.out.afl
  go_wp2_with fail
  go_loopw [3, 4] (fun v i wr => ∃ k : Nat, k ≤ s.after.length ∧ i = iV k ∧ v = .string (headB s k) ∧ Keep (fun _ => False) w4 wr) (fun _ i _ => s.after.length + 1 - (RowKit.intOf i).toNat)
  case atStart => exact ⟨0, Nat.zero_le _, rfl, rfl, Keep.refl _ _⟩
  case round =>
    obtain ⟨k, hk, rfl, rfl, hkr⟩ := hrel
    have HKR := hid (HK4.out.trans hkr); have HSR := hid (hkr.get HS4.out id); have HKL := hid hkr
    have c2 : wr.cell? ⟨sb, 2, none⟩ = some (.slice pa s.after.length ca) := cell_of HSR.out (i := 2) (by rfl)
    clear hkr
    by_cases hlt : k < s.after.length
    · obtain ⟨t, ht⟩ : ∃ t, s.after[k]? = some t := ⟨s.after[k], by simp [hlt]⟩
      have hts := nameB_size (HOK.out.afn (List.mem_of_getElem? ht))
      have hps := headB_size HOK.out k
      obtain ⟨b, off, rfl, hb2, d0⟩ := TP.at (HTA.out wr HKR.out) ht
      have hin : (0 : Int) ≤ (k : Int) ∧ (k : Int) < (s.after.length : Int) := ⟨by omega, by omega⟩
      have HN1 : Hid (k = 0 → headB s k ++ ⟨#[32, 97, 102, 116, 101, 114]⟩ ++ ⟨#[32]⟩ ++ t = headB s (k + 1)) := hid (fun h => by subst h; exact head_1 ht)
      have HN2 : Hid (k ≠ 0 → headB s k ++ ⟨#[32]⟩ ++ t = headB s (k + 1)) := hid (fun h => head_n ht h)
      clear ht hb2
      obtain ⟨p, hp⟩ : ∃ p, headB s k = p := ⟨_, rfl⟩
      rw [hp] at HN1 HN2 hps ⊢
      clear hp
      by_cases hk0 : k = 0
      · have HNX := hid (HN1.out hk0)
        have g1 : ((k : Int) == 0) = true := by rw [hk0]; rfl
        have g2 : (k == 0) = true := by rw [hk0]; rfl
        have y1 : ¬ (9223372036854775807 < p.size + 6) := by omega
        have y2 : ¬ (9223372036854775807 < p.size + 6 + 1) := by omega
        have y3 : ¬ (9223372036854775807 < p.size + 6 + 1 + t.size) := by omega
        clear hk0
        go_wp2
        go_roundw
        case rel => exact ⟨k + 1, by omega, by go_num, by rw [HNX.out], HKL.out⟩
        case measure => simp [RowKit.intOf]; omega
      · have HNX := hid (HN2.out hk0)
        have g1 : ((k : Int) == 0) = false := by rw [beq_eq_false_iff_ne]; omega
        have g2 : (k == 0) = false := by rw [beq_eq_false_iff_ne]; exact hk0
        have y1 : ¬ (9223372036854775807 < p.size + 1) := by omega
        have y2 : ¬ (9223372036854775807 < p.size + 1 + t.size) := by omega
        clear hk0
        go_wp2
        go_roundw
        case rel => exact ⟨k + 1, by omega, by go_num, by rw [HNX.out], HKL.out⟩
        case measure => simp [RowKit.intOf]; omega
    · obtain rfl : k = s.after.length := by omega
      have g0 : decide ((s.after.length : Int) < (s.after.length : Int)) = false := decide_eq_false (by omega)
      have HHS := hid (headB_size HOK.out s.after.length)
      obtain ⟨hb, hhb⟩ : ∃ hb, headB s s.after.length = hb := ⟨_, rfl⟩
      rw [hhb] at HE HHS ⊢
      clear hhb
      have HQL : Hid (queryL s = ⟨#[113, 117, 101, 114, 121, 32]⟩ ++ sigT s.all ++ ⟨#[32, 110, 111, 116, 32]⟩ ++ sigT s.none) := hid (by
        unfold queryL
        apply ba_inj
        simp only [ByteArray.data_append, Array.toList_append, List.append_assoc])
      have za : (sigT s.all).size ≤ 600 := sigT_size
      have zb : (sigT s.none).size ≤ 600 := sigT_size
      generalize sigT s.all = ta at *
      generalize sigT s.none = tb at *
      have y1 : ¬ (9223372036854775807 < 6 + ta.size) := by omega
      have y2 : ¬ (9223372036854775807 < 6 + ta.size + 5) := by omega
      have y3 : ¬ (9223372036854775807 < 6 + ta.size + 5 + tb.size) := by omega
      clear za zb
      go_upto_region 10 with fail
      have HS5 : Hid (wr.drew.heap[sb]? = some (.cells (SysC s pa ca pc cc) 32 (0, 0))) := HSR
      have HK5 := hid HKR.out.drew
      clear c2 g0
      refine Plan.wp_region_pl [(false, 0, []), (false, 1, []), (false, 2, []), (false, 6, []), (false, 7, []), (true, 3, [7, 6, 0]), (false, 4, []), (false, 5, []), (true, 8, [5, 4, 0]), (false, 9, []), (true, 10, []), (false, 11, [])] (by as_aux_lemma => kernel_rfl) (by as_aux_lemma => kernel_rfl) ?_
      generalize wr.drew = w5 at *
      have c0 := cell_of HS5.out (i := 0) (by rfl)
      have c1 := cell_of HS5.out (i := 1) (by rfl)
      have c2 := cell_of HS5.out (i := 2) (by rfl)
      have c3 := cell_of HS5.out (i := 3) (by rfl)
      have c4 := cell_of HS5.out (i := 4) (by rfl)
      have c5 := cell_of HS5.out (i := 5) (by rfl)
      iterate 5 (refine Plan.pl_st rfl ?_; go_big_quiet_step (fail); refine wpQuiet_nil ?_)
      refine Plan.pl_ac rfl ?_
      go_wp2_with fail
      refine (HQA.out w5).mono ?_
      rintro r w6 ⟨rfl, hk⟩
      have HS6 := hid (hk.get HS5.out id); have HK6 := hid (HK5.out.trans hk)
      clear hk c0 c1 c2 c3 c4 c5
      have c0 := cell_of HS6.out (i := 0) (by rfl)
      have c1 := cell_of HS6.out (i := 1) (by rfl)
      have c2 := cell_of HS6.out (i := 2) (by rfl)
      have c3 := cell_of HS6.out (i := 3) (by rfl)
      have c4 := cell_of HS6.out (i := 4) (by rfl)
      have c5 := cell_of HS6.out (i := 5) (by rfl)
      go_wp2
      refine Plan.plQ_mk ?_ ?_
      · iterate 3 (refine Plan.chk_st rfl ?_ ?_; focus (go_big_quiet_step (fail); exact wpQuiet_nil rfl))
        exact Plan.chk_end
      iterate 2 (refine Plan.pl_st rfl ?_; go_big_quiet_step (fail); refine wpQuiet_nil ?_)
      refine Plan.pl_ac rfl ?_
      go_wp2_with fail
      refine (HQB.out w6).mono ?_
      rintro r w7 ⟨rfl, hk⟩
      have HS7 := hid (hk.get HS6.out id); have HK7 := hid (HK6.out.trans hk)
      clear hk c0 c1 c2 c3 c4 c5
      have c0 := cell_of HS7.out (i := 0) (by rfl)
      have c1 := cell_of HS7.out (i := 1) (by rfl)
      have c2 := cell_of HS7.out (i := 2) (by rfl)
      have c3 := cell_of HS7.out (i := 3) (by rfl)
      have c4 := cell_of HS7.out (i := 4) (by rfl)
      have c5 := cell_of HS7.out (i := 5) (by rfl)
      go_wp2
      refine Plan.plQ_mk ?_ ?_
      · iterate 3 (refine Plan.chk_st rfl ?_ ?_; focus (go_big_quiet_step (fail); exact wpQuiet_nil rfl))
        exact Plan.chk_end
      iterate 1 (refine Plan.pl_st rfl ?_; go_big_quiet_step (fail); refine wpQuiet_nil ?_)
      refine Plan.pl_ac rfl ?_
      rw [← HQL.out]
      obtain ⟨w8, hw8, hb8, hs8, hk8⟩ := box1 w7 #[.string hb, .string (queryL s)] 9
      have HO8 : Hid (w8.ownsRow w7.heap.size 9 1 (.slice (some ⟨w7.heap.size, 0, none⟩) 2 2) 2 ([hb, queryL s].map Value.string)) := hid (row_made hb8 (Nat.le_refl _) rfl (by unfold maxLen; omega))
      have HS8 := hid (hk8.get HS7.out id); have HK8 := hid (HK7.out.trans hk8)
      have HKS8 : Hid (w7.heap.size < w8.heap.size) := hid (lt_of_heap hb8)
      have HWO : Hid (sb ≤ w7.heap.size) := hid (by have := HK7.out.size; omega)
      clear hb8 hs8 hk8
      go_wp2
      rw [← hw8]
      clear hw8
      refine Plan.plQ_mk Plan.chk_end ?_
      iterate 1 (refine Plan.pl_st rfl ?_; go_big_quiet_step (fail); refine wpQuiet_nil ?_)
      refine Plan.pl_end ?_
      have HSN : Hid (sb ≠ w7.heap.size) := hid (by have := lt_of_heap HS7.out; omega)
      generalize w7.heap.size = ob at *
      clear y1 y2 y3 c0 c1 c2 c3 c4 c5 HQL
      generalize queryL s = ql at *
      go_wp2_with fail
      refine (r_words22 w8).mono ?_
      rintro r w9 ⟨rfl, hk⟩
      have HS9 := hid (hk.get HS8.out id); have HK9 := hid (HK8.out.trans hk)
      have HO9 := hid (owns_keep HO8.out (fun q hq => hk.block q (HO8.out.lt q hq).2 id))
      have HKS9 : Hid (ob < w9.heap.size) := hid (by have := HKS8.out; have := hk.size; omega)
      clear hk
      obtain ⟨w10, hst, hwb, hk, hlt10⟩ := words_new w9
      have HS10 := hid (hk.get HS9.out id); have HK10 := hid (HK9.out.trans hk)
      have HO10 := hid (owns_keep HO9.out (fun q hq => hk.block q (HO9.out.lt q hq).2 id))
      have HKS10 : Hid (ob < w10.heap.size) := hid (by have := HKS9.out; omega)
      have HWB10 := hid hwb; have HWN : Hid (w9.heap.size ≠ ob) := hid (by have := HKS9.out; omega)
      have hz := zero_words; have hsz := wordsZ_size
      clear hk hwb hlt10
      go_wp2_with fail
      clear hst hz hsz
      generalize w9.heap.size = wb at *
      have HCL := hid HOK.out.cdl
      generalize linesY s = LY at *
      go_loopw [5, 7, 8, 9] (fun v i _ _ wr => ∃ k : Nat, k ≤ s.code.length ∧ i = iV k ∧ wr.ownsRow ob 9 1 v (2 + k) ((hb :: ql :: (s.code.take k).mapIdx opLine).map Value.string) ∧ (∀ j, v.ownBlock = some j → j = ob ∨ w10.heap.size ≤ j) ∧ Keep (fun j => j = ob) w10 wr) (fun _ i _ _ _ => s.code.length + 1 - (intOf i).toNat)
      case atStart => exact ⟨0, Nat.zero_le _, rfl, HO10.out, fun j hj => .inl (by simp [Value.ownBlock] at hj; exact hj.symm), Keep.refl _ _⟩
      case round =>
        obtain ⟨k, hk, rfl, how, hbl, hkr⟩ := hrel
        obtain ⟨vp, vc, rfl⟩ := owns_val how
        have HO := hid how; have HKR := hid hkr; have HBL := hid hbl
        have HKW := hid (keep_new HK10.out hkr (fun j e => by have := HWO.out; omega))
        have HSR := hid (hkr.get HS10.out HSN.out)
        have HWR := hid (hkr.get HWB10.out HWN.out)
        clear how hkr hbl
        have c5 : wr.cell? ⟨sb, 5, none⟩ = some (.slice pc s.code.length cc) := cell_of HSR.out (i := 5) (by rfl)
        by_cases hlt : k < s.code.length
        · obtain ⟨x, hx⟩ : ∃ x, s.code[k]? = some x := ⟨s.code[k], by simp [hlt]⟩
          have HNX : Hid (hb :: ql :: (s.code.take (k + 1)).mapIdx opLine = (hb :: ql :: (s.code.take k).mapIdx opLine) ++ [opLine k x]) := hid (by rw [idx_next hx]; rfl)
          have hgx := HOK.out.cod x (List.mem_of_getElem? hx)
          have hix := HIK.out x (List.mem_of_getElem? hx)
          have hbn := op_bounds hgx
          unfold IB at hix
          have HDA := hid (fun w => rf_dig x.a (by omega) (by omega) w)
          have HDB := hid (fun w => rf_dig x.b (by omega) (by omega) w)
          have HDC := hid (fun w => rf_dig x.c (by omega) (by omega) w)
          have HDK := hid (fun w => rf_dig x.k (by omega) (by omega) w)
          have HDI := hid (fun w => rf_dig (k : Int) (by omega) (by have := HCL.out; omega) w)
          have za := it_size x.a (by omega) (by omega)
          have zb := it_size x.b (by omega) (by omega)
          have zc := it_size x.c (by omega) (by omega)
          have zk := it_size x.k (by omega) (by omega)
          have zi := it_size (k : Int) (by omega) (by have := HCL.out; omega)
          have zw := word_size x.code
          have HL0 := hid (opL_0 k x); have HL1 := hid (opL_1 k x); have HL2 := hid (opL_2 k x); have HL3 := hid (opL_3 k x)
          obtain ⟨cn, hcn⟩ : ∃ cn : Nat, x.code = (cn : Int) := ⟨x.code.toNat, by omega⟩
          have hc24 : 1 ≤ cn ∧ cn < 24 := by omega
          have HWC : Hid (wordsA[cn]? = some (.string (wordI x.code))) := hid (by
            rw [wordsA_at hc24.2]; unfold wordI; rw [hcn, codeB_nat hc24]; rfl)
          have HCN := hid hcn
          clear hcn
          have hin1 : (0 : Int) ≤ (cn : Int) ∧ (cn : Int) < 24 := ⟨by omega, by omega⟩
          obtain ⟨b, off, rfl, hb2, d0, d1, d2, d3, d4⟩ := VP.at (HVC.out wr HKW.out) hx
          have hin : (0 : Int) ≤ (k : Int) ∧ (k : Int) < (s.code.length : Int) := ⟨by omega, by omega⟩
          clear hx hb2 hgx hix hbn
          obtain ⟨wx, hwx, hbx, hsx, hkx⟩ := box1 wr (OC x) 83
          have HXC := hid hbx
          have HKX := hid (HKR.out.trans (hkx.mono (T := fun j => j = ob) (fun _ _ h => h.elim)))
          have HOX := hid (owns_keep HO.out (fun q hq => hkx.block q (HO.out.lt q hq).2 id))
          have HWX := hid (hkx.get HWR.out id)
          clear hbx hsx hkx
          go_upto_region 16 with fail
          rw [← hwx]
          clear hwx d0 d1 d2 d3 d4 c5
          generalize wr.heap.size = xb at *
          generalize opLine k x = ox at *
          generalize itB (k : Int) = ti at *
          generalize wordI x.code = tw at *
          generalize itB x.a = ta at *
          generalize itB x.b = tb at *
          generalize itB x.c = tc at *
          generalize itB x.k = tk at *
          have HX11 : Hid (wx.drew.heap[xb]? = some (.cells (OC x) 83 (0, 0))) := HXC
          have HW11 : Hid (wx.drew.heap[wb]? = some (.cells wordsA 107 (0, 0))) := HWX
          have HK11 := hid HKX.out.drew
          have HO11 := hid (owns_keep (w' := wx.drew) HOX.out (fun _ _ => rfl))
          have y1 : ¬ (9223372036854775807 < ti.size + 1) := by omega
          have y2 : ¬ (9223372036854775807 < ti.size + 1 + tw.size) := by omega
          refine Plan.wp_region_pl [(false, 0, []), (false, 3, []), (false, 4, []), (false, 5, []), (false, 6, []), (true, 1, [6, 5, 4, 3]), (false, 2, []), (false, 7, []), (false, 8, [])] (by as_aux_lemma => kernel_rfl) (by as_aux_lemma => kernel_rfl) ?_
          generalize wx.drew = w11 at *
          have e0 := cell_of HX11.out (i := 0) (by rfl)
          have e1 := cell_of HX11.out (i := 1) (by rfl)
          have e2 := cell_of HX11.out (i := 2) (by rfl)
          have e3 := cell_of HX11.out (i := 3) (by rfl)
          have e4 := cell_of HX11.out (i := 4) (by rfl)
          simp only [List.getElem_toArray, List.getElem_cons_succ, List.getElem_cons_zero] at e0 e1 e2 e3 e4
          rw [HCN.out] at e0
          have cw := cell_of HW11.out HWC.out
          iterate 5 (refine Plan.pl_st rfl ?_; go_big_quiet_step (fail); refine wpQuiet_nil ?_)
          refine Plan.pl_ac rfl ?_
          go_wp2_with fail
          refine (HDI.out w11).mono ?_
          rintro r w12 ⟨rfl, hk⟩
          have HX12 := hid (hk.get HX11.out id); have HK12 := hid (HK11.out.trans (hk.mono (T := fun j => j = ob) (fun _ _ h => h.elim)))
          have HW12 := hid (hk.get HW11.out id)
          have HO12 := hid (owns_keep HO11.out (fun q hq => hk.block q (HO11.out.lt q hq).2 id))
          clear cw
          have cw := cell_of HW12.out HWC.out
          clear hk
          clear e0 e1 e2 e3 e4
          have e0 := cell_of HX12.out (i := 0) (by rfl)
          have e1 := cell_of HX12.out (i := 1) (by rfl)
          have e2 := cell_of HX12.out (i := 2) (by rfl)
          have e3 := cell_of HX12.out (i := 3) (by rfl)
          have e4 := cell_of HX12.out (i := 4) (by rfl)
          simp only [List.getElem_toArray, List.getElem_cons_succ, List.getElem_cons_zero] at e0 e1 e2 e3 e4
          rw [HCN.out] at e0
          go_wp2
          refine Plan.plQ_mk ?_ ?_
          · iterate 4 (refine Plan.chk_st rfl ?_ ?_; focus (go_big_quiet_step (fail); exact wpQuiet_nil rfl))
            exact Plan.chk_end
          iterate 3 (refine Plan.pl_st rfl ?_; go_big_quiet_step (fail); refine wpQuiet_nil ?_)
          refine Plan.pl_end ?_
          have hp : (ti ++ ⟨#[32]⟩ ++ tw).size ≤ 27 := by
            rw [ByteArray.size_append, ByteArray.size_append]
            have : (⟨#[32]⟩ : ByteArray).size = 1 := rfl
            omega
          obtain ⟨p, hpe⟩ : ∃ p, ti ++ ⟨#[32]⟩ ++ tw = p := ⟨_, rfl⟩
          rw [hpe] at HL0 HL1 HL2 HL3 hp ⊢
          clear hpe cw y1 y2 zi zw HDI
          go_upto_block 4 with fail
          go_cut [9] from 74 to 112 (fun v wx => v = .string ox ∧ Keep (fun _ => False) w12 wx)
          case first =>
            rcases (show cn = 2 ∨ cn = 3 ∨ cn = 20 ∨ cn = 21 ∨ cn = 22 ∨ cn = 1 ∨ cn = 16 ∨ cn = 17 ∨ ((cn ≠ 2 ∧ cn ≠ 3 ∧ cn ≠ 20 ∧ cn ≠ 21) ∧ cn ≠ 22 ∧ cn ≠ 1 ∧ cn ≠ 16 ∧ cn ≠ 17) by omega) with rfl | rfl | rfl | rfl | rfl | rfl | rfl | rfl | hne
            · as_aux_lemma =>
              have HLX := hid (HL3.out (by rw [HCN.out]; rfl))
              have HX21 : Hid (w12.drew.heap[xb]? = some (.cells (OC x) 83 (0, 0))) := HX12
              have HK21 := hid ((Keep.refl (fun _ => False) w12).drew)
              have y1 : ¬ (9223372036854775807 < p.size + 1) := by omega
              have y2 : ¬ (9223372036854775807 < p.size + 1 + ta.size) := by omega
              have y3 : ¬ (9223372036854775807 < p.size + 1 + ta.size + 1) := by omega
              have y4 : ¬ (9223372036854775807 < p.size + 1 + ta.size + 1 + tb.size) := by omega
              have y5 : ¬ (9223372036854775807 < p.size + 1 + ta.size + 1 + tb.size + 1) := by omega
              have y6 : ¬ (9223372036854775807 < p.size + 1 + ta.size + 1 + tb.size + 1 + tc.size) := by omega
              go_upto_region 20 with fail
              clear e0 e1 e2 e3 e4
              refine Plan.wp_region_pl [(false, 0, []), (false, 1, []), (false, 2, []), (false, 3, []), (false, 7, []), (false, 8, []), (false, 12, []), (false, 13, []), (true, 4, [13, 12, 8, 7, 1, 0]), (false, 5, []), (false, 6, []), (true, 9, [6, 5, 13, 12, 1, 0]), (false, 10, []), (false, 11, []), (true, 14, [11, 10, 6, 5, 1, 0]), (false, 15, []), (true, 16, [])] (by as_aux_lemma => kernel_rfl) (by as_aux_lemma => kernel_rfl) ?_
              generalize w12.drew = w21 at *
              have e0 := cell_of HX21.out (i := 0) (by rfl)
              have e1 := cell_of HX21.out (i := 1) (by rfl)
              have e2 := cell_of HX21.out (i := 2) (by rfl)
              have e3 := cell_of HX21.out (i := 3) (by rfl)
              have e4 := cell_of HX21.out (i := 4) (by rfl)
              simp only [List.getElem_toArray, List.getElem_cons_succ, List.getElem_cons_zero] at e0 e1 e2 e3 e4
              rw [HCN.out] at e0
              iterate 8 (refine Plan.pl_st rfl ?_; go_big_quiet_step (fail); refine wpQuiet_nil ?_)
              refine Plan.pl_ac rfl ?_
              go_wp2_with fail
              refine (HDA.out w21).mono ?_
              rintro r w22 ⟨rfl, hk⟩
              have HX22 := hid (hk.get HX21.out id); have HK22 := hid (HK21.out.trans hk)
              clear hk
              clear e0 e1 e2 e3 e4
              have e0 := cell_of HX22.out (i := 0) (by rfl)
              have e1 := cell_of HX22.out (i := 1) (by rfl)
              have e2 := cell_of HX22.out (i := 2) (by rfl)
              have e3 := cell_of HX22.out (i := 3) (by rfl)
              have e4 := cell_of HX22.out (i := 4) (by rfl)
              simp only [List.getElem_toArray, List.getElem_cons_succ, List.getElem_cons_zero] at e0 e1 e2 e3 e4
              rw [HCN.out] at e0
              go_wp2
              refine Plan.plQ_mk ?_ ?_
              · iterate 6 (refine Plan.chk_st rfl ?_ ?_; focus (go_big_quiet_step (fail); exact wpQuiet_nil rfl))
                exact Plan.chk_end
              iterate 2 (refine Plan.pl_st rfl ?_; go_big_quiet_step (fail); refine wpQuiet_nil ?_)
              refine Plan.pl_ac rfl ?_
              go_wp2_with fail
              refine (HDB.out w22).mono ?_
              rintro r w23 ⟨rfl, hk⟩
              have HX23 := hid (hk.get HX22.out id); have HK23 := hid (HK22.out.trans hk)
              clear hk
              clear e0 e1 e2 e3 e4
              have e0 := cell_of HX23.out (i := 0) (by rfl)
              have e1 := cell_of HX23.out (i := 1) (by rfl)
              have e2 := cell_of HX23.out (i := 2) (by rfl)
              have e3 := cell_of HX23.out (i := 3) (by rfl)
              have e4 := cell_of HX23.out (i := 4) (by rfl)
              simp only [List.getElem_toArray, List.getElem_cons_succ, List.getElem_cons_zero] at e0 e1 e2 e3 e4
              rw [HCN.out] at e0
              go_wp2
              refine Plan.plQ_mk ?_ ?_
              · iterate 6 (refine Plan.chk_st rfl ?_ ?_; focus (go_big_quiet_step (fail); exact wpQuiet_nil rfl))
                exact Plan.chk_end
              iterate 2 (refine Plan.pl_st rfl ?_; go_big_quiet_step (fail); refine wpQuiet_nil ?_)
              refine Plan.pl_ac rfl ?_
              go_wp2_with fail
              refine (HDC.out w23).mono ?_
              rintro r w24 ⟨rfl, hk⟩
              have HX24 := hid (hk.get HX23.out id); have HK24 := hid (HK23.out.trans hk)
              clear hk
              clear e0 e1 e2 e3 e4
              have e0 := cell_of HX24.out (i := 0) (by rfl)
              have e1 := cell_of HX24.out (i := 1) (by rfl)
              have e2 := cell_of HX24.out (i := 2) (by rfl)
              have e3 := cell_of HX24.out (i := 3) (by rfl)
              have e4 := cell_of HX24.out (i := 4) (by rfl)
              simp only [List.getElem_toArray, List.getElem_cons_succ, List.getElem_cons_zero] at e0 e1 e2 e3 e4
              rw [HCN.out] at e0
              go_wp2
              refine Plan.plQ_mk ?_ ?_
              · iterate 6 (refine Plan.chk_st rfl ?_ ?_; focus (go_big_quiet_step (fail); exact wpQuiet_nil rfl))
                exact Plan.chk_end
              iterate 1 (refine Plan.pl_st rfl ?_; go_big_quiet_step (fail); refine wpQuiet_nil ?_)
              refine Plan.pl_ac rfl ?_
              go_wp2
              refine Plan.plQ_mk Plan.chk_end ?_
              refine Plan.pl_end ?_
              go_wp2
              go_meet
              case rel => exact ⟨by rw [HLX.out], HK24.out⟩
            · as_aux_lemma =>
              have HLX := hid (HL3.out (by rw [HCN.out]; rfl))
              have HX21 : Hid (w12.drew.heap[xb]? = some (.cells (OC x) 83 (0, 0))) := HX12
              have HK21 := hid ((Keep.refl (fun _ => False) w12).drew)
              have y1 : ¬ (9223372036854775807 < p.size + 1) := by omega
              have y2 : ¬ (9223372036854775807 < p.size + 1 + ta.size) := by omega
              have y3 : ¬ (9223372036854775807 < p.size + 1 + ta.size + 1) := by omega
              have y4 : ¬ (9223372036854775807 < p.size + 1 + ta.size + 1 + tb.size) := by omega
              have y5 : ¬ (9223372036854775807 < p.size + 1 + ta.size + 1 + tb.size + 1) := by omega
              have y6 : ¬ (9223372036854775807 < p.size + 1 + ta.size + 1 + tb.size + 1 + tc.size) := by omega
              go_upto_region 20 with fail
              clear e0 e1 e2 e3 e4
              refine Plan.wp_region_pl [(false, 0, []), (false, 1, []), (false, 2, []), (false, 3, []), (false, 7, []), (false, 8, []), (false, 12, []), (false, 13, []), (true, 4, [13, 12, 8, 7, 1, 0]), (false, 5, []), (false, 6, []), (true, 9, [6, 5, 13, 12, 1, 0]), (false, 10, []), (false, 11, []), (true, 14, [11, 10, 6, 5, 1, 0]), (false, 15, []), (true, 16, [])] (by as_aux_lemma => kernel_rfl) (by as_aux_lemma => kernel_rfl) ?_
              generalize w12.drew = w21 at *
              have e0 := cell_of HX21.out (i := 0) (by rfl)
              have e1 := cell_of HX21.out (i := 1) (by rfl)
              have e2 := cell_of HX21.out (i := 2) (by rfl)
              have e3 := cell_of HX21.out (i := 3) (by rfl)
              have e4 := cell_of HX21.out (i := 4) (by rfl)
              simp only [List.getElem_toArray, List.getElem_cons_succ, List.getElem_cons_zero] at e0 e1 e2 e3 e4
              rw [HCN.out] at e0
              iterate 8 (refine Plan.pl_st rfl ?_; go_big_quiet_step (fail); refine wpQuiet_nil ?_)
              refine Plan.pl_ac rfl ?_
              go_wp2_with fail
              refine (HDA.out w21).mono ?_
              rintro r w22 ⟨rfl, hk⟩
              have HX22 := hid (hk.get HX21.out id); have HK22 := hid (HK21.out.trans hk)
              clear hk
              clear e0 e1 e2 e3 e4
              have e0 := cell_of HX22.out (i := 0) (by rfl)
              have e1 := cell_of HX22.out (i := 1) (by rfl)
              have e2 := cell_of HX22.out (i := 2) (by rfl)
              have e3 := cell_of HX22.out (i := 3) (by rfl)
              have e4 := cell_of HX22.out (i := 4) (by rfl)
              simp only [List.getElem_toArray, List.getElem_cons_succ, List.getElem_cons_zero] at e0 e1 e2 e3 e4
              rw [HCN.out] at e0
              go_wp2
              refine Plan.plQ_mk ?_ ?_
              · iterate 6 (refine Plan.chk_st rfl ?_ ?_; focus (go_big_quiet_step (fail); exact wpQuiet_nil rfl))
                exact Plan.chk_end
              iterate 2 (refine Plan.pl_st rfl ?_; go_big_quiet_step (fail); refine wpQuiet_nil ?_)
              refine Plan.pl_ac rfl ?_
              go_wp2_with fail
              refine (HDB.out w22).mono ?_
              rintro r w23 ⟨rfl, hk⟩
              have HX23 := hid (hk.get HX22.out id); have HK23 := hid (HK22.out.trans hk)
              clear hk
              clear e0 e1 e2 e3 e4
              have e0 := cell_of HX23.out (i := 0) (by rfl)
              have e1 := cell_of HX23.out (i := 1) (by rfl)
              have e2 := cell_of HX23.out (i := 2) (by rfl)
              have e3 := cell_of HX23.out (i := 3) (by rfl)
              have e4 := cell_of HX23.out (i := 4) (by rfl)
              simp only [List.getElem_toArray, List.getElem_cons_succ, List.getElem_cons_zero] at e0 e1 e2 e3 e4
              rw [HCN.out] at e0
              go_wp2
              refine Plan.plQ_mk ?_ ?_
              · iterate 6 (refine Plan.chk_st rfl ?_ ?_; focus (go_big_quiet_step (fail); exact wpQuiet_nil rfl))
                exact Plan.chk_end
              iterate 2 (refine Plan.pl_st rfl ?_; go_big_quiet_step (fail); refine wpQuiet_nil ?_)
              refine Plan.pl_ac rfl ?_
              go_wp2_with fail
              refine (HDC.out w23).mono ?_
              rintro r w24 ⟨rfl, hk⟩
              have HX24 := hid (hk.get HX23.out id); have HK24 := hid (HK23.out.trans hk)
              clear hk
              clear e0 e1 e2 e3 e4
              have e0 := cell_of HX24.out (i := 0) (by rfl)
              have e1 := cell_of HX24.out (i := 1) (by rfl)
              have e2 := cell_of HX24.out (i := 2) (by rfl)
              have e3 := cell_of HX24.out (i := 3) (by rfl)
              have e4 := cell_of HX24.out (i := 4) (by rfl)
              simp only [List.getElem_toArray, List.getElem_cons_succ, List.getElem_cons_zero] at e0 e1 e2 e3 e4
              rw [HCN.out] at e0
              go_wp2
              refine Plan.plQ_mk ?_ ?_
              · iterate 6 (refine Plan.chk_st rfl ?_ ?_; focus (go_big_quiet_step (fail); exact wpQuiet_nil rfl))
                exact Plan.chk_end
              iterate 1 (refine Plan.pl_st rfl ?_; go_big_quiet_step (fail); refine wpQuiet_nil ?_)
              refine Plan.pl_ac rfl ?_
              go_wp2
              refine Plan.plQ_mk Plan.chk_end ?_
              refine Plan.pl_end ?_
              go_wp2
              go_meet
              case rel => exact ⟨by rw [HLX.out], HK24.out⟩
            · as_aux_lemma =>
              have HLX := hid (HL2.out (by rw [HCN.out]; rfl))
              have y1 : ¬ (9223372036854775807 < p.size + 1) := by omega
              have y2 : ¬ (9223372036854775807 < p.size + 1 + ta.size) := by omega
              go_wp2_with fail
              refine (HDA.out w12).mono ?_
              rintro r w13 ⟨rfl, hk⟩
              have HK13 := hid hk
              clear hk
              go_wp2
              go_meet
              case rel => exact ⟨by rw [HLX.out], HK13.out⟩
            · as_aux_lemma =>
              have HLX := hid (HL2.out (by rw [HCN.out]; rfl))
              have y1 : ¬ (9223372036854775807 < p.size + 1) := by omega
              have y2 : ¬ (9223372036854775807 < p.size + 1 + ta.size) := by omega
              go_wp2_with fail
              refine (HDA.out w12).mono ?_
              rintro r w13 ⟨rfl, hk⟩
              have HK13 := hid hk
              clear hk
              go_wp2
              go_meet
              case rel => exact ⟨by rw [HLX.out], HK13.out⟩
            · as_aux_lemma =>
              have HLX := hid (HL2.out (by rw [HCN.out]; rfl))
              have y1 : ¬ (9223372036854775807 < p.size + 1) := by omega
              have y2 : ¬ (9223372036854775807 < p.size + 1 + ta.size) := by omega
              go_wp2_with fail
              refine (HDA.out w12).mono ?_
              rintro r w13 ⟨rfl, hk⟩
              have HK13 := hid hk
              clear hk
              go_wp2
              go_meet
              case rel => exact ⟨by rw [HLX.out], HK13.out⟩
            · as_aux_lemma =>
              have HLX := hid (HL1.out (by rw [HCN.out]; rfl))
              have y1 : ¬ (9223372036854775807 < p.size + 1) := by omega
              have y2 : ¬ (9223372036854775807 < p.size + 1 + tk.size) := by omega
              go_wp2_with fail
              refine (HDK.out w12).mono ?_
              rintro r w13 ⟨rfl, hk⟩
              have HK13 := hid hk
              clear hk
              go_wp2
              go_meet
              case rel => exact ⟨by rw [HLX.out], HK13.out⟩
            · as_aux_lemma =>
              have HLX := hid (HL1.out (by rw [HCN.out]; rfl))
              have y1 : ¬ (9223372036854775807 < p.size + 1) := by omega
              have y2 : ¬ (9223372036854775807 < p.size + 1 + tk.size) := by omega
              go_wp2_with fail
              refine (HDK.out w12).mono ?_
              rintro r w13 ⟨rfl, hk⟩
              have HK13 := hid hk
              clear hk
              go_wp2
              go_meet
              case rel => exact ⟨by rw [HLX.out], HK13.out⟩
            · as_aux_lemma =>
              have HLX := hid (HL1.out (by rw [HCN.out]; rfl))
              have y1 : ¬ (9223372036854775807 < p.size + 1) := by omega
              have y2 : ¬ (9223372036854775807 < p.size + 1 + tk.size) := by omega
              go_wp2_with fail
              refine (HDK.out w12).mono ?_
              rintro r w13 ⟨rfl, hk⟩
              have HK13 := hid hk
              clear hk
              go_wp2
              go_meet
              case rel => exact ⟨by rw [HLX.out], HK13.out⟩
            · as_aux_lemma =>
              obtain ⟨⟨n1, n2, n3, n4⟩, n5, n6, n7, n8⟩ := hne
              have q0 : ((cn : Int) == 2) = false := by rw [beq_eq_false_iff_ne]; omega
              have s0 : (cn == 2) = false := by rw [beq_eq_false_iff_ne]; omega
              have q1 : ((cn : Int) == 3) = false := by rw [beq_eq_false_iff_ne]; omega
              have s1 : (cn == 3) = false := by rw [beq_eq_false_iff_ne]; omega
              have q2 : ((cn : Int) == 20) = false := by rw [beq_eq_false_iff_ne]; omega
              have s2 : (cn == 20) = false := by rw [beq_eq_false_iff_ne]; omega
              have q3 : ((cn : Int) == 21) = false := by rw [beq_eq_false_iff_ne]; omega
              have s3 : (cn == 21) = false := by rw [beq_eq_false_iff_ne]; omega
              have q4 : ((cn : Int) == 22) = false := by rw [beq_eq_false_iff_ne]; omega
              have s4 : (cn == 22) = false := by rw [beq_eq_false_iff_ne]; omega
              have q5 : ((cn : Int) == 1) = false := by rw [beq_eq_false_iff_ne]; omega
              have s5 : (cn == 1) = false := by rw [beq_eq_false_iff_ne]; omega
              have q6 : ((cn : Int) == 16) = false := by rw [beq_eq_false_iff_ne]; omega
              have s6 : (cn == 16) = false := by rw [beq_eq_false_iff_ne]; omega
              have q7 : ((cn : Int) == 17) = false := by rw [beq_eq_false_iff_ne]; omega
              have s7 : (cn == 17) = false := by rw [beq_eq_false_iff_ne]; omega
              have HLX := hid (HL0.out (names_no HCN.out n1 n2 n3 n4 n5 n6 n7 n8))
              clear n1 n2 n3 n4 n5 n6 n7 n8
              go_wp2
              go_meet
              case rel => exact ⟨by rw [HLX.out], Keep.refl _ _⟩
          case rest =>
          obtain ⟨rfl, hkc⟩ := hcut
          have HK8 := hid (HK12.out.trans (hkc.mono (T := fun j => j = ob) (fun _ _ h => h.elim)))
          have HO8 := hid (owns_keep HO12.out (fun q hq => hkc.block q (HO12.out.lt q hq).2 id))
          have hl64 := HCL.out
          clear hkc e0 e1 e2 e3 e4 HL0 HL1 HL2 HL3 HCN
          generalize (hb :: ql :: (s.code.take k).mapIdx opLine) = us at *
          go_wp2_with (at_builtin; go_loud (refine wpList_append_rd rfl (.tmp 113) (.tmp 115) _ rfl ob _ i0 _ 1 16 Tryd.underlying22 hi0 hz0 hz1 hz2 rfl (by decide) _ (2 + k) _ (by rfl) (HO8.out.alloc _) _ 1 _ (by rfl) (rd_block (heap_alloc_new wc _) (by simp) (by simp [Value.oneCell'])) (by unfold maxLen; omega) (by omega) (by have := HK8.out.size; have := HKS10.out; simp; omega) ?_); go_loud (intro v' w9 hown6 hgrow6 hat6 hn6; obtain ⟨vq, vd, rfl⟩ := owns_val hown6; have HO9 := hid hown6; have HB9 : Hid (∀ j, (Value.slice vq (2 + k + 1) vd).ownBlock = some j → j = ob ∨ w10.heap.size ≤ j) := hid (fun j hj => by rcases hat6 with h | h; exact HBL.out j (h ▸ hj); (rw [h] at hj; injection hj with hj; right; have := HK8.out.size; simp at hj; omega)); have HK9 := hid ((HK8.out.alloc _).grown hgrow6 (fun k hk => by rcases HBL.out k hk with h | h; exact .inr h; exact .inl h)); clear hown6 hgrow6 hat6 hn6))
          go_wp2
          go_roundw
          case rel => exact ⟨k + 1, by omega, by go_num, by rw [HNX.out, List.map_append]; exact HO9.out, HB9.out, HK9.out⟩
          case measure => simp [intOf]; omega
        · obtain rfl : k = s.code.length := by omega
          have g0 : decide ((s.code.length : Int) < (s.code.length : Int)) = false := decide_eq_false (by omega)
          rw [List.take_length] at HO
          have HLL : Hid (LY.length = 2 + s.code.length) := hid (by rw [HE.out]; simp; omega)
          go_wp2
          go_ret
          unfold TxtR
          rw [HLL.out, HE.out]
          exact ⟨_, _, rfl, owns_mono HO.out (by rw [hsb]; exact HWO.out), HKW.out⟩
end Go.Proofs.YtbnhdmalkmcalaaDoor
