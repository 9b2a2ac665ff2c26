/- What is proved: the walk of 'ColumnExact': it returns true and writes nothing that was there. -/
import Derived.Test.YtcdmegaebcjnlaaColAct
import Derived.Test.YtcdmegaebcjnlaaColExactOut
import Derived.Test.YtcdmegaebcjnlaaRegion2
import Derived.Deep.CutRange
import Derived.Deep.CutBlock
namespace Go.Proofs.Ytcdmegaebcjnlaa
open Go.RowKit Go.Proofs.Heap Go.Proofs.Col

theorem zeroAct (w : World) : (zeroValue 48).run Try.prog w = .ok (.agg #[.int .i64 0, .int .i64 0, .string ByteArray.empty]) w := by kernel_rfl

/-- A deed's cells. -/
structure W3 (w : World) (b o : Nat) (K I : Int) (S : ByteArray) : Prop where
  c0 : w.cell? ⟨b, o, none⟩ = some (.int .i64 K)
  c1 : w.cell? ⟨b, o + 1, none⟩ = some (.int .i64 I)
  c2 : w.cell? ⟨b, o + 2, none⟩ = some (.string S)

set_option maxRecDepth 100000 in
set_option maxHeartbeats 40000000 in
theorem exact_walk (size most : Int) (a : Option Addr) (len cap_ : Nat) (w : World) (hr : len = 0 ∨ ∃ b off, a = some ⟨b, off, none⟩ ∧ b < w.heap.size ∧ ∀ i, i < len → ∃ K I S, W3 w b (off + i * 3) K I S) :
    Calls Try.prog 5 #[.int .i64 size, .int .i64 most, .slice a len cap_] w fun e w' => e = .returned (.bool true) ∧ Below w.heap.size w w' := by
  have HR := hid hr
  clear hr
  by_cases hin : 0 ≤ size ∧ size ≤ 256 ∧ 1 ≤ most ∧ most ≤ 65536
  · obtain ⟨hz0, hz1, hm0, hm1⟩ := hin
    obtain ⟨sz, rfl⟩ := Int.eq_ofNat_of_zero_le hz0
    obtain ⟨cp, rfl⟩ := Int.eq_ofNat_of_zero_le (show 0 ≤ most by omega)
    go_enter Try.func5, Try.ntmps5
    go_wp2_with fail
    refine (awake_true w).mono ?_
    rintro e w1 ⟨rfl, hb1⟩
    go_wp2_with fail
    refine (tc_new sz cp w1 (by omega) (by omega) (by omega)).mono ?_
    rintro e w2 ⟨rfl, hc2, hb2⟩
    have hs1 := hb1.size
    have hs2 := hb2.size
    have HC2 := hid hc2; have HB2 := hid (hb1.trans (hb2.mono hs1))
    clear hc2 hb1 hb2
    have hx0 : Ex w (w2.alloc (.cells #[.int .i64 (sz : Int), .int .i64 (cp : Int), .slice none 0 0] 46)) w1.heap.size w2.heap.size sz cp [] [] [w1.heap.size] (.slice none 0 0) :=
      { col := HC2.out.keep fun k hk => Below.heap_alloc _ _ _ (HC2.out.lt k hk)
        ref := { head := heap_alloc_new w2 _, own := ⟨rfl, .inl ⟨rfl, rfl⟩⟩, ne := by simp [Value.ownBlock], sz_le := by omega, n_le := by simp, cap_le := by omega }
        low := by simp; omega
        ulow := by omega
        glow := by simp [Value.ownBlock]
        uF := by have := HC2.out.lt w1.heap.size (by simp); simp; omega
        gF := by simp [Value.ownBlock]
        below := HB2.out.alloc (by omega) _ }
    have HX := hid hx0
    clear hx0 HC2 HB2
    go_wp2
    go_loopw [7, 13] (fun c i wr => ∃ (k cb : Nat) (rows : List (List UInt8)) (F : List Nat) (Lv : Value), k ≤ 120 ∧ i = .int .i64 k ∧ c = .pointer (some ⟨cb, 0, none⟩) ∧ Ex w wr cb w2.heap.size sz cp rows rows F Lv) (fun _ i _ => 120 - (intOf i).toNat)
    case atStart => exact ⟨0, _, [], _, _, by omega, rfl, rfl, HX.out⟩
    case round =>
      clear HX
      obtain ⟨k, cb, rows, F, Lv, hk, rfl, rfl, hh⟩ := hrel
      have hH := hid hh
      clear hh
      by_cases hlt : k < len ∧ k < 120
      · obtain ⟨hl1, hl2⟩ := hlt
        rcases HR.out with h0 | ⟨b, off, rfl, hbl, hcell⟩
        · omega
        obtain ⟨K, I, S, hw3⟩ := hcell k hl1
        have hc0 := (hH.out.below.cell (p := ⟨b, off + k * 3, none⟩) hbl).trans hw3.c0
        have hc1 := (hH.out.below.cell (p := ⟨b, off + k * 3 + 1, none⟩) hbl).trans hw3.c1
        have hc2 := (hH.out.below.cell (p := ⟨b, off + k * 3 + 2, none⟩) hbl).trans hw3.c2
        have hki : (0 : Int) ≤ (k : Int) ∧ (k : Int) < (len : Int) := ⟨by omega, by omega⟩
        clear hcell hw3
        by_cases h300 : (300 : Int) < (S.size : Int)
        · go_wp2
          go_ret
          exact ⟨rfl, hH.out.below.alloc hH.out.below.size _⟩
        have h300' : (S.size : Int) ≤ 300 := by omega
        clear h300
        go_upto_block 2 with fail
        go_cut [7, 15, 16, 17, 18, 19, 20, 21] from 98 to 266 (fun c _ _ _ _ _ _ _ wx => ∃ (cb' : Nat) (R : List (List UInt8)) (F' : List Nat) (Lv' : Value), c = .pointer (some ⟨cb', 0, none⟩) ∧ Ex w wx cb' w2.heap.size sz cp R R F' Lv')
        case first =>
          rcases (show K = 1 ∨ K = 2 ∨ K = 3 ∨ K = 4 ∨ K = 5 ∨ K = 6 ∨ K = 7 ∨ K = 8 ∨ ((K ≠ 1 ∧ K ≠ 2 ∧ K ≠ 3 ∧ K ≠ 4) ∧ K ≠ 5 ∧ K ≠ 6 ∧ K ≠ 7 ∧ K ≠ 8) by omega) with rfl | rfl | rfl | rfl | rfl | rfl | rfl | rfl | hK
          · as_aux_lemma =>
              have hX0 : (wr.alloc (.cells #[.int .i64 1, .int .i64 I, .string S] 48)).heap[wr.heap.size]? = some (Obj.cells #[.int .i64 1, .int .i64 I, .string S] 48 (0, 0)) := heap_alloc_new wr _
              have hE0 : Ex w (wr.alloc (.cells #[.int .i64 1, .int .i64 I, .string S] 48)) cb w2.heap.size sz cp rows rows F Lv := hH.out.heap ((Below.refl _ wr).alloc (Nat.le_refl _) _)
              have hXF : wr.heap.size ∉ F := fun hm => by have := hH.out.col.lt _ hm; omega
              have hXu : wr.heap.size ≠ w2.heap.size := by have := hH.out.ult; omega
              have hXs : wr.heap.size < (wr.alloc (.cells #[.int .i64 1, .int .i64 I, .string S] 48)).heap.size := by simp
              have HX := hid hX0; have HE := hid hE0; have HXF := hid hXF; have HXu := hid hXu; have HXs := hid hXs
              clear hX0 hE0 hXF hXu hXs
              go_wp2_with fail
              have HED := hid (HE.out.heap (Below.refl _ _).drew)
              refine Plan.wp_region_plan2 [(false, 0, []), (false, 1, []), (false, 2, []), (false, 4, []), (false, 5, []), (false, 6, []), (true, 3, [6, 5, 4]), (true, 7, []), (false, 8, [])] (by as_aux_lemma => kernel_rfl) (by as_aux_lemma => kernel_rfl) ?_
              repeat (refine Plan.plan_st rfl ?_; go_big_quiet_step (fail); refine wpQuiet_nil ?_)
              refine Plan.plan_ac rfl ?_
              go_wp2_with fail
              refine (tc_app_any _ HED.out.col S).mono ?_
              rintro e w3 ⟨rfl, hto⟩
              obtain ⟨F3, hE3, hk3⟩ := HED.out.viaC hto
              have hX3 := (hk3.block _ HXs.out HXF.out).trans HX.out
              have hx1 : w3.cell? ⟨wr.heap.size, 1, none⟩ = some (.int .i64 I) := cell_of hX3 rfl
              have hx2 : w3.cell? ⟨wr.heap.size, 2, none⟩ = some (.string S) := cell_of hX3 rfl
              have HE3 := hid hE3
              clear hto hE3 hk3 hX3
              go_wp2
              refine Plan.planQ_mk ?_ ?_
              · repeat (refine Plan.chk_st rfl ?_ ?_; focus (go_big_quiet_step (fail); exact wpQuiet_nil rfl))
                exact Plan.chk_end
              refine Plan.plan_ac rfl ?_
              go_wp2_with fail
              refine (ref_app_any w3 HE3.out.ref S).mono ?_
              rintro e w4 ⟨rfl, hto⟩
              obtain ⟨Lv4, hE4, hk4⟩ := HE3.out.viaU hto
              obtain ⟨R, hR⟩ : ∃ R, appL sz cp rows S = R := ⟨_, rfl⟩
              rw [hR] at hE4
              have HE4 := hid hE4
              clear hto hE4 hk4 hR
              generalize appC sz cp rows S = z
              go_wp2
              refine Plan.planQ_mk ?_ ?_
              · repeat (refine Plan.chk_st rfl ?_ ?_; focus (go_big_quiet_step (fail); exact wpQuiet_nil rfl))
                exact Plan.chk_end
              repeat (refine Plan.plan_st rfl ?_; go_big_quiet_step (fail); refine wpQuiet_nil ?_)
              refine Plan.plan_end ?_
              go_wp2
              go_meet
              exact ⟨_, _, _, _, rfl, HE4.out⟩
          · as_aux_lemma =>
              have hX0 : (wr.alloc (.cells #[.int .i64 2, .int .i64 I, .string S] 48)).heap[wr.heap.size]? = some (Obj.cells #[.int .i64 2, .int .i64 I, .string S] 48 (0, 0)) := heap_alloc_new wr _
              have hE0 : Ex w (wr.alloc (.cells #[.int .i64 2, .int .i64 I, .string S] 48)) cb w2.heap.size sz cp rows rows F Lv := hH.out.heap ((Below.refl _ wr).alloc (Nat.le_refl _) _)
              have hXF : wr.heap.size ∉ F := fun hm => by have := hH.out.col.lt _ hm; omega
              have hXu : wr.heap.size ≠ w2.heap.size := by have := hH.out.ult; omega
              have hXs : wr.heap.size < (wr.alloc (.cells #[.int .i64 2, .int .i64 I, .string S] 48)).heap.size := by simp
              have HX := hid hX0; have HE := hid hE0; have HXF := hid hXF; have HXu := hid hXu; have HXs := hid hXs
              clear hX0 hE0 hXF hXu hXs
              go_wp2_with fail
              have HED := hid (HE.out.heap (Below.refl _ _).drew)
              refine Plan.wp_region_plan2 [(false, 0, []), (false, 1, []), (false, 2, []), (false, 4, []), (false, 5, []), (false, 6, []), (true, 3, [6, 5, 4]), (true, 7, []), (false, 8, [])] (by as_aux_lemma => kernel_rfl) (by as_aux_lemma => kernel_rfl) ?_
              repeat (refine Plan.plan_st rfl ?_; go_big_quiet_step (fail); refine wpQuiet_nil ?_)
              refine Plan.plan_ac rfl ?_
              go_wp2_with fail
              refine (tc_app_any _ HED.out.col S).mono ?_
              rintro e w3 ⟨rfl, hto⟩
              obtain ⟨F3, hE3, hk3⟩ := HED.out.viaC hto
              have hX3 := (hk3.block _ HXs.out HXF.out).trans HX.out
              have hx1 : w3.cell? ⟨wr.heap.size, 1, none⟩ = some (.int .i64 I) := cell_of hX3 rfl
              have hx2 : w3.cell? ⟨wr.heap.size, 2, none⟩ = some (.string S) := cell_of hX3 rfl
              have HE3 := hid hE3
              clear hto hE3 hk3 hX3
              go_wp2
              refine Plan.planQ_mk ?_ ?_
              · repeat (refine Plan.chk_st rfl ?_ ?_; focus (go_big_quiet_step (fail); exact wpQuiet_nil rfl))
                exact Plan.chk_end
              refine Plan.plan_ac rfl ?_
              go_wp2_with fail
              refine (ref_app_any w3 HE3.out.ref S).mono ?_
              rintro e w4 ⟨rfl, hto⟩
              obtain ⟨Lv4, hE4, hk4⟩ := HE3.out.viaU hto
              obtain ⟨R, hR⟩ : ∃ R, appL sz cp rows S = R := ⟨_, rfl⟩
              rw [hR] at hE4
              have HE4 := hid hE4
              clear hto hE4 hk4 hR
              generalize appC sz cp rows S = z
              go_wp2
              refine Plan.planQ_mk ?_ ?_
              · repeat (refine Plan.chk_st rfl ?_ ?_; focus (go_big_quiet_step (fail); exact wpQuiet_nil rfl))
                exact Plan.chk_end
              repeat (refine Plan.plan_st rfl ?_; go_big_quiet_step (fail); refine wpQuiet_nil ?_)
              refine Plan.plan_end ?_
              go_wp2
              go_meet
              exact ⟨_, _, _, _, rfl, HE4.out⟩
          · as_aux_lemma =>
              have hX0 : (wr.alloc (.cells #[.int .i64 3, .int .i64 I, .string S] 48)).heap[wr.heap.size]? = some (Obj.cells #[.int .i64 3, .int .i64 I, .string S] 48 (0, 0)) := heap_alloc_new wr _
              have hE0 : Ex w (wr.alloc (.cells #[.int .i64 3, .int .i64 I, .string S] 48)) cb w2.heap.size sz cp rows rows F Lv := hH.out.heap ((Below.refl _ wr).alloc (Nat.le_refl _) _)
              have hXF : wr.heap.size ∉ F := fun hm => by have := hH.out.col.lt _ hm; omega
              have hXu : wr.heap.size ≠ w2.heap.size := by have := hH.out.ult; omega
              have hXs : wr.heap.size < (wr.alloc (.cells #[.int .i64 3, .int .i64 I, .string S] 48)).heap.size := by simp
              have HX := hid hX0; have HE := hid hE0; have HXF := hid hXF; have HXu := hid hXu; have HXs := hid hXs
              clear hX0 hE0 hXF hXu hXs
              go_wp2_with fail
              have HED := hid (HE.out.heap (Below.refl _ _).drew)
              refine Plan.wp_region_plan2 [(false, 0, []), (false, 1, []), (false, 2, []), (false, 4, []), (false, 5, []), (false, 6, []), (true, 3, [6, 5, 4]), (true, 7, []), (false, 8, [])] (by as_aux_lemma => kernel_rfl) (by as_aux_lemma => kernel_rfl) ?_
              repeat (refine Plan.plan_st rfl ?_; go_big_quiet_step (fail); refine wpQuiet_nil ?_)
              refine Plan.plan_ac rfl ?_
              go_wp2_with fail
              refine (tc_app_any _ HED.out.col S).mono ?_
              rintro e w3 ⟨rfl, hto⟩
              obtain ⟨F3, hE3, hk3⟩ := HED.out.viaC hto
              have hX3 := (hk3.block _ HXs.out HXF.out).trans HX.out
              have hx1 : w3.cell? ⟨wr.heap.size, 1, none⟩ = some (.int .i64 I) := cell_of hX3 rfl
              have hx2 : w3.cell? ⟨wr.heap.size, 2, none⟩ = some (.string S) := cell_of hX3 rfl
              have HE3 := hid hE3
              clear hto hE3 hk3 hX3
              go_wp2
              refine Plan.planQ_mk ?_ ?_
              · repeat (refine Plan.chk_st rfl ?_ ?_; focus (go_big_quiet_step (fail); exact wpQuiet_nil rfl))
                exact Plan.chk_end
              refine Plan.plan_ac rfl ?_
              go_wp2_with fail
              refine (ref_app_any w3 HE3.out.ref S).mono ?_
              rintro e w4 ⟨rfl, hto⟩
              obtain ⟨Lv4, hE4, hk4⟩ := HE3.out.viaU hto
              obtain ⟨R, hR⟩ : ∃ R, appL sz cp rows S = R := ⟨_, rfl⟩
              rw [hR] at hE4
              have HE4 := hid hE4
              clear hto hE4 hk4 hR
              generalize appC sz cp rows S = z
              go_wp2
              refine Plan.planQ_mk ?_ ?_
              · repeat (refine Plan.chk_st rfl ?_ ?_; focus (go_big_quiet_step (fail); exact wpQuiet_nil rfl))
                exact Plan.chk_end
              repeat (refine Plan.plan_st rfl ?_; go_big_quiet_step (fail); refine wpQuiet_nil ?_)
              refine Plan.plan_end ?_
              go_wp2
              go_meet
              exact ⟨_, _, _, _, rfl, HE4.out⟩
          · as_aux_lemma =>
              have hX0 : (wr.alloc (.cells #[.int .i64 4, .int .i64 I, .string S] 48)).heap[wr.heap.size]? = some (Obj.cells #[.int .i64 4, .int .i64 I, .string S] 48 (0, 0)) := heap_alloc_new wr _
              have hE0 : Ex w (wr.alloc (.cells #[.int .i64 4, .int .i64 I, .string S] 48)) cb w2.heap.size sz cp rows rows F Lv := hH.out.heap ((Below.refl _ wr).alloc (Nat.le_refl _) _)
              have hXF : wr.heap.size ∉ F := fun hm => by have := hH.out.col.lt _ hm; omega
              have hXu : wr.heap.size ≠ w2.heap.size := by have := hH.out.ult; omega
              have hXs : wr.heap.size < (wr.alloc (.cells #[.int .i64 4, .int .i64 I, .string S] 48)).heap.size := by simp
              have HX := hid hX0; have HE := hid hE0; have HXF := hid hXF; have HXu := hid hXu; have HXs := hid hXs
              clear hX0 hE0 hXF hXu hXs
              go_wp2_with fail
              have HED := hid (HE.out.heap (Below.refl _ _).drew)
              refine Plan.wp_region_plan2 [(false, 0, []), (false, 1, []), (false, 2, []), (false, 3, []), (false, 4, []), (false, 6, []), (false, 7, []), (false, 8, []), (false, 9, []), (false, 10, []), (true, 5, [10, 9, 8, 7, 6]), (true, 11, []), (false, 12, [])] (by as_aux_lemma => kernel_rfl) (by as_aux_lemma => kernel_rfl) ?_
              repeat (refine Plan.plan_st rfl ?_; go_big_quiet_step (fail); refine wpQuiet_nil ?_)
              refine Plan.plan_ac rfl ?_
              go_wp2_with fail
              refine (tc_set_any _ HED.out.col I S).mono ?_
              rintro e w3 ⟨rfl, hto⟩
              obtain ⟨F3, hE3, hk3⟩ := HED.out.viaC hto
              have hX3 := (hk3.block _ HXs.out HXF.out).trans HX.out
              have hx1 : w3.cell? ⟨wr.heap.size, 1, none⟩ = some (.int .i64 I) := cell_of hX3 rfl
              have hx2 : w3.cell? ⟨wr.heap.size, 2, none⟩ = some (.string S) := cell_of hX3 rfl
              have HE3 := hid hE3
              clear hto hE3 hk3 hX3
              go_wp2
              refine Plan.planQ_mk ?_ ?_
              · repeat (refine Plan.chk_st rfl ?_ ?_; focus (go_big_quiet_step (fail); exact wpQuiet_nil rfl))
                exact Plan.chk_end
              refine Plan.plan_ac rfl ?_
              go_wp2_with fail
              refine (ref_set_any w3 HE3.out.ref I S).mono ?_
              rintro e w4 ⟨rfl, hto⟩
              obtain ⟨Lv4, hE4, hk4⟩ := HE3.out.viaU hto
              obtain ⟨R, hR⟩ : ∃ R, setL sz rows I S = R := ⟨_, rfl⟩
              rw [hR] at hE4
              have HE4 := hid hE4
              clear hto hE4 hk4 hR
              generalize setC sz rows I S = z
              go_wp2
              refine Plan.planQ_mk ?_ ?_
              · repeat (refine Plan.chk_st rfl ?_ ?_; focus (go_big_quiet_step (fail); exact wpQuiet_nil rfl))
                exact Plan.chk_end
              repeat (refine Plan.plan_st rfl ?_; go_big_quiet_step (fail); refine wpQuiet_nil ?_)
              refine Plan.plan_end ?_
              go_wp2
              go_meet
              exact ⟨_, _, _, _, rfl, HE4.out⟩
          · as_aux_lemma =>
              by_cases hI : 0 ≤ I ∧ I < (rows.length : Int)
              · obtain ⟨I, rfl⟩ := Int.eq_ofNat_of_zero_le hI.1
                have hIl : I < rows.length := by omega
                have hX0 : (wr.alloc (.cells #[.int .i64 5, .int .i64 (I : Int), .string S] 48)).heap[wr.heap.size]? = some (Obj.cells #[.int .i64 5, .int .i64 (I : Int), .string S] 48 (0, 0)) := heap_alloc_new wr _
                have hE0 : Ex w (wr.alloc (.cells #[.int .i64 5, .int .i64 (I : Int), .string S] 48)) cb w2.heap.size sz cp rows rows F Lv := hH.out.heap ((Below.refl _ wr).alloc (Nat.le_refl _) _)
                have hXF : wr.heap.size ∉ F := fun hm => by have := hH.out.col.lt _ hm; omega
                have hXu : wr.heap.size ≠ w2.heap.size := by have := hH.out.ult; omega
                have hXs : wr.heap.size < (wr.alloc (.cells #[.int .i64 5, .int .i64 (I : Int), .string S] 48)).heap.size := by simp
                have HX := hid hX0; have HE := hid hE0; have HXF := hid hXF; have HXu := hid hXu; have HXs := hid hXs
                clear hX0 hE0 hXF hXu hXs
                have hxc1 : (wr.alloc (.cells #[.int .i64 5, .int .i64 (I : Int), .string S] 48)).cell? ⟨wr.heap.size, 1, none⟩ = some (.int .i64 (I : Int)) := cell_of HX.out rfl
                have hxc2 : (wr.alloc (.cells #[.int .i64 5, .int .i64 (I : Int), .string S] 48)).cell? ⟨wr.heap.size, 2, none⟩ = some (.string S) := cell_of HX.out rfl
                generalize hwx : (wr.alloc (.cells #[.int .i64 5, .int .i64 (I : Int), .string S] 48)) = wx at HX HE HXs hxc1 hxc2 ⊢
                clear hwx
                obtain ⟨p0, c0, hLv0⟩ := owns_val HE.out.ref.own
                have hown0 := HE.out.ref.own
                rw [hLv0] at hown0
                obtain ⟨g0, c1, e1, hg0⟩ := owns_row hown0 hIl
                injection e1 with e1 e2 e3
                clear e2
                subst e1; subst e3
                have hu0 : wx.cell? ⟨w2.heap.size, 2, none⟩ = some (.slice (some ⟨g0, 0, none⟩) rows.length c0) := by rw [← hLv0]; exact cell_of HE.out.ref.head rfl
                have hget := tc_get _ HE.out.col (I : Int) (by omega) (by omega)
                have hxe : rows.getD (Int.toNat (I : Int)) [] = rows[I] := by simp [List.getD, hIl]
                rw [hxe] at hget
                have hri : (0 : Int) ≤ (I : Int) ∧ (I : Int) < (rows.length : Int) := ⟨by omega, by omega⟩
                obtain ⟨x, hx⟩ : ∃ x, rows[I] = x := ⟨_, rfl⟩
                rw [hx] at hget hg0
                have HG := hid hget
                clear hget hx hxe hown0 hLv0 hI
                go_wp2_with fail
                refine HG.out.mono ?_
                rintro e w3 ⟨rfl, rfl⟩
                go_wp2
                have hIn : ¬ ((I : Int) < 0) := by omega
                have hId : decide ((I : Int) < 0) = false := decide_eq_false hIn
                have hIm : ¬ ((rows.length : Int) ≤ (I : Int)) := by omega
                have hIe : decide ((rows.length : Int) ≤ (I : Int)) = false := decide_eq_false hIm
                refine Plan.wp_region_reads (by as_aux_lemma => kernel_rfl) (by as_aux_lemma => kernel_rfl) ?_
                repeat (go_big_quiet_step (fail))
                refine wpQuiet_nil ?_
                go_wp2
                refine Plan.wp_region_reads (by as_aux_lemma => kernel_rfl) (by as_aux_lemma => kernel_rfl) ?_
                repeat (go_big_quiet_step (fail))
                refine wpQuiet_nil ?_
                have hE4 := HE.out.heap (Below.refl _ wx).drew.drew.drew
                have HE4 := hid hE4
                clear hE4 hu0 hg0
                go_wp2
                go_meet
                exact ⟨_, _, _, _, rfl, HE4.out⟩
              · by_cases hI0 : I < 0
                · clear hI
                  have hX0 : (wr.alloc (.cells #[.int .i64 5, .int .i64 I, .string S] 48)).heap[wr.heap.size]? = some (Obj.cells #[.int .i64 5, .int .i64 I, .string S] 48 (0, 0)) := heap_alloc_new wr _
                  have hE0 : Ex w (wr.alloc (.cells #[.int .i64 5, .int .i64 I, .string S] 48)) cb w2.heap.size sz cp rows rows F Lv := hH.out.heap ((Below.refl _ wr).alloc (Nat.le_refl _) _)
                  have hXF : wr.heap.size ∉ F := fun hm => by have := hH.out.col.lt _ hm; omega
                  have hXu : wr.heap.size ≠ w2.heap.size := by have := hH.out.ult; omega
                  have hXs : wr.heap.size < (wr.alloc (.cells #[.int .i64 5, .int .i64 I, .string S] 48)).heap.size := by simp
                  have HX := hid hX0; have HE := hid hE0; have HXF := hid hXF; have HXu := hid hXu; have HXs := hid hXs
                  clear hX0 hE0 hXF hXu hXs
                  have hxc1 : (wr.alloc (.cells #[.int .i64 5, .int .i64 I, .string S] 48)).cell? ⟨wr.heap.size, 1, none⟩ = some (.int .i64 I) := cell_of HX.out rfl
                  have hxc2 : (wr.alloc (.cells #[.int .i64 5, .int .i64 I, .string S] 48)).cell? ⟨wr.heap.size, 2, none⟩ = some (.string S) := cell_of HX.out rfl
                  generalize hwx : (wr.alloc (.cells #[.int .i64 5, .int .i64 I, .string S] 48)) = wx at HX HE HXs hxc1 hxc2 ⊢
                  clear hwx
                  have hl0 := HE.out.col.c2
                  have HOUT := hid (col_get_out cb _ I _ hl0 (by omega))
                  obtain ⟨p0, c0, hLv0⟩ := owns_val HE.out.ref.own
                  have hu0 : wx.cell? ⟨w2.heap.size, 2, none⟩ = some (.slice p0 rows.length c0) := by rw [← hLv0]; exact cell_of HE.out.ref.head rfl
                  clear hLv0 hl0
                  go_wp2_with fail
                  refine HOUT.out.mono ?_
                  rintro e w3 ⟨rfl, rfl⟩
                  go_wp2
                  have hIn : I < 0 := by omega
                  have hId : decide (I < 0) = true := decide_eq_true hIn
                  refine Plan.wp_region_reads (by as_aux_lemma => kernel_rfl) (by as_aux_lemma => kernel_rfl) ?_
                  repeat (go_big_quiet_step (fail))
                  refine wpQuiet_nil ?_
                  have hE4 := HE.out.heap (Below.refl _ wx).drew
                  have HE4 := hid hE4
                  clear hE4 hu0
                  go_wp2
                  go_meet
                  exact ⟨_, _, _, _, rfl, HE4.out⟩
                · have hI1 : (rows.length : Int) ≤ I := by omega
                  clear hI
                  have hX0 : (wr.alloc (.cells #[.int .i64 5, .int .i64 I, .string S] 48)).heap[wr.heap.size]? = some (Obj.cells #[.int .i64 5, .int .i64 I, .string S] 48 (0, 0)) := heap_alloc_new wr _
                  have hE0 : Ex w (wr.alloc (.cells #[.int .i64 5, .int .i64 I, .string S] 48)) cb w2.heap.size sz cp rows rows F Lv := hH.out.heap ((Below.refl _ wr).alloc (Nat.le_refl _) _)
                  have hXF : wr.heap.size ∉ F := fun hm => by have := hH.out.col.lt _ hm; omega
                  have hXu : wr.heap.size ≠ w2.heap.size := by have := hH.out.ult; omega
                  have hXs : wr.heap.size < (wr.alloc (.cells #[.int .i64 5, .int .i64 I, .string S] 48)).heap.size := by simp
                  have HX := hid hX0; have HE := hid hE0; have HXF := hid hXF; have HXu := hid hXu; have HXs := hid hXs
                  clear hX0 hE0 hXF hXu hXs
                  have hxc1 : (wr.alloc (.cells #[.int .i64 5, .int .i64 I, .string S] 48)).cell? ⟨wr.heap.size, 1, none⟩ = some (.int .i64 I) := cell_of HX.out rfl
                  have hxc2 : (wr.alloc (.cells #[.int .i64 5, .int .i64 I, .string S] 48)).cell? ⟨wr.heap.size, 2, none⟩ = some (.string S) := cell_of HX.out rfl
                  generalize hwx : (wr.alloc (.cells #[.int .i64 5, .int .i64 I, .string S] 48)) = wx at HX HE HXs hxc1 hxc2 ⊢
                  clear hwx
                  have hl0 := HE.out.col.c2
                  have HOUT := hid (col_get_out cb _ I _ hl0 (by omega))
                  obtain ⟨p0, c0, hLv0⟩ := owns_val HE.out.ref.own
                  have hu0 : wx.cell? ⟨w2.heap.size, 2, none⟩ = some (.slice p0 rows.length c0) := by rw [← hLv0]; exact cell_of HE.out.ref.head rfl
                  clear hLv0 hl0
                  go_wp2_with fail
                  refine HOUT.out.mono ?_
                  rintro e w3 ⟨rfl, rfl⟩
                  go_wp2
                  have hIn : ¬ (I < 0) := by omega
                  have hId : decide (I < 0) = false := decide_eq_false hIn
                  have hIm : (rows.length : Int) ≤ I := by omega
                  have hIe : decide ((rows.length : Int) ≤ I) = true := decide_eq_true hIm
                  refine Plan.wp_region_reads (by as_aux_lemma => kernel_rfl) (by as_aux_lemma => kernel_rfl) ?_
                  repeat (go_big_quiet_step (fail))
                  refine wpQuiet_nil ?_
                  have hE4 := HE.out.heap (Below.refl _ wx).drew
                  have HE4 := hid hE4
                  clear hE4 hu0
                  go_wp2
                  go_meet
                  exact ⟨_, _, _, _, rfl, HE4.out⟩
          · as_aux_lemma =>
              have hX0 : (wr.alloc (.cells #[.int .i64 6, .int .i64 I, .string S] 48)).heap[wr.heap.size]? = some (Obj.cells #[.int .i64 6, .int .i64 I, .string S] 48 (0, 0)) := heap_alloc_new wr _
              have hE0 : Ex w (wr.alloc (.cells #[.int .i64 6, .int .i64 I, .string S] 48)) cb w2.heap.size sz cp rows rows F Lv := hH.out.heap ((Below.refl _ wr).alloc (Nat.le_refl _) _)
              have hXF : wr.heap.size ∉ F := fun hm => by have := hH.out.col.lt _ hm; omega
              have hXu : wr.heap.size ≠ w2.heap.size := by have := hH.out.ult; omega
              have hXs : wr.heap.size < (wr.alloc (.cells #[.int .i64 6, .int .i64 I, .string S] 48)).heap.size := by simp
              have HX := hid hX0; have HE := hid hE0; have HXF := hid hXF; have HXu := hid hXu; have HXs := hid hXs
              clear hX0 hE0 hXF hXu hXs
              have HED := HE
              go_wp2_with fail
              refine (tc_swap_any _ HE.out.col I).mono ?_
              rintro e w3 ⟨rfl, hto⟩
              obtain ⟨F3, hE3, hk3⟩ := HED.out.viaC hto
              have hX3 := (hk3.block _ HXs.out HXF.out).trans HX.out
              have hx1 : w3.cell? ⟨wr.heap.size, 1, none⟩ = some (.int .i64 I) := cell_of hX3 rfl
              have hx2 : w3.cell? ⟨wr.heap.size, 2, none⟩ = some (.string S) := cell_of hX3 rfl
              have HE3 := hid hE3
              clear hto hE3 hk3 hX3
              go_wp2_with fail
              refine (ref_swap_any w3 HE3.out.ref I).mono ?_
              rintro e w4 ⟨rfl, hto⟩
              obtain ⟨Lv4, hE4, hk4⟩ := HE3.out.viaU hto
              obtain ⟨R, hR⟩ : ∃ R, swapL rows I = R := ⟨_, rfl⟩
              rw [hR] at hE4
              have HE4 := hid hE4
              clear hto hE4 hk4 hR
              generalize swapN rows I = z
              generalize swapC rows I = z2
              go_wp2
              go_meet
              exact ⟨_, _, _, _, rfl, HE4.out⟩
          · as_aux_lemma =>
              have hX0 : (wr.alloc (.cells #[.int .i64 7, .int .i64 I, .string S] 48)).heap[wr.heap.size]? = some (Obj.cells #[.int .i64 7, .int .i64 I, .string S] 48 (0, 0)) := heap_alloc_new wr _
              have hE0 : Ex w (wr.alloc (.cells #[.int .i64 7, .int .i64 I, .string S] 48)) cb w2.heap.size sz cp rows rows F Lv := hH.out.heap ((Below.refl _ wr).alloc (Nat.le_refl _) _)
              have hXF : wr.heap.size ∉ F := fun hm => by have := hH.out.col.lt _ hm; omega
              have hXu : wr.heap.size ≠ w2.heap.size := by have := hH.out.ult; omega
              have hXs : wr.heap.size < (wr.alloc (.cells #[.int .i64 7, .int .i64 I, .string S] 48)).heap.size := by simp
              have HX := hid hX0; have HE := hid hE0; have HXF := hid hXF; have HXu := hid hXu; have HXs := hid hXs
              clear hX0 hE0 hXF hXu hXs
              have hxc1 : (wr.alloc (.cells #[.int .i64 7, .int .i64 I, .string S] 48)).cell? ⟨wr.heap.size, 1, none⟩ = some (.int .i64 I) := cell_of HX.out rfl
              have hxc2 : (wr.alloc (.cells #[.int .i64 7, .int .i64 I, .string S] 48)).cell? ⟨wr.heap.size, 2, none⟩ = some (.string S) := cell_of HX.out rfl
              generalize hwx : (wr.alloc (.cells #[.int .i64 7, .int .i64 I, .string S] 48)) = wx at HX HE HXs hxc1 hxc2 ⊢
              clear hwx
              go_wp2_with fail
              refine (tc_clone _ HE.out.col).mono ?_
              rintro e w4 ⟨rfl, F4, hc4, hb4, hf4⟩
              have hE4 := HE.out.cloned hc4 hb4 hf4
              have HE4 := hid hE4
              clear hE4 hc4 hb4 hf4
              go_wp2
              go_meet
              exact ⟨_, _, _, _, rfl, HE4.out⟩
          · as_aux_lemma =>
              have hX0 : (wr.alloc (.cells #[.int .i64 8, .int .i64 I, .string S] 48)).heap[wr.heap.size]? = some (Obj.cells #[.int .i64 8, .int .i64 I, .string S] 48 (0, 0)) := heap_alloc_new wr _
              have hE0 : Ex w (wr.alloc (.cells #[.int .i64 8, .int .i64 I, .string S] 48)) cb w2.heap.size sz cp rows rows F Lv := hH.out.heap ((Below.refl _ wr).alloc (Nat.le_refl _) _)
              have hXF : wr.heap.size ∉ F := fun hm => by have := hH.out.col.lt _ hm; omega
              have hXu : wr.heap.size ≠ w2.heap.size := by have := hH.out.ult; omega
              have hXs : wr.heap.size < (wr.alloc (.cells #[.int .i64 8, .int .i64 I, .string S] 48)).heap.size := by simp
              have HX := hid hX0; have HE := hid hE0; have HXF := hid hXF; have HXu := hid hXu; have HXs := hid hXs
              clear hX0 hE0 hXF hXu hXs
              have hxc1 : (wr.alloc (.cells #[.int .i64 8, .int .i64 I, .string S] 48)).cell? ⟨wr.heap.size, 1, none⟩ = some (.int .i64 I) := cell_of HX.out rfl
              have hxc2 : (wr.alloc (.cells #[.int .i64 8, .int .i64 I, .string S] 48)).cell? ⟨wr.heap.size, 2, none⟩ = some (.string S) := cell_of HX.out rfl
              generalize hwx : (wr.alloc (.cells #[.int .i64 8, .int .i64 I, .string S] 48)) = wx at HX HE HXs hxc1 hxc2 ⊢
              clear hwx
              go_wp2_with fail
              refine (tc_clone _ HE.out.col).mono ?_
              rintro e w4 ⟨rfl, F4, hc4, hb4, hf4⟩
              have hx4 : w4.cell? ⟨wr.heap.size, 2, none⟩ = some (.string S) := (hb4.cell (p := ⟨wr.heap.size, 2, none⟩) HXs.out).trans hxc2
              have HB4 := hid hb4; have HF4 := hid hf4; have HC4 := hid hc4
              clear hb4 hf4 hc4
              go_wp2_with fail
              refine (tc_swap_any w4 HC4.out 0).mono ?_
              rintro e w5 ⟨rfl, F5, hc5, hk5, hf5⟩
              have hb5 := below_keep HB4.out hk5 (fun j hj => HF4.out j hj) (by omega)
              have hg5 : ∀ j ∈ F5, wx.heap.size ≤ j := fun j hj => by have := HB4.out.size; rcases hf5 j hj with e | e; exact HF4.out j e; omega
              have hx5 : w5.cell? ⟨wr.heap.size, 2, none⟩ = some (.string S) := (hb5.cell (p := ⟨wr.heap.size, 2, none⟩) HXs.out).trans hxc2
              have HB5 := hid hb5; have HF5 := hid hg5; have HC5 := hid hc5
              clear hb5 hg5 hc5 hk5 hf5
              clear hx4
              go_wp2_with fail
              refine (tc_app_any w5 HC5.out S).mono ?_
              rintro e w6 ⟨rfl, F6, hc6, hk6, hf6⟩
              have hb6 := below_keep HB5.out hk6 (fun j hj => HF5.out j hj) (by omega)
              have hg6 : ∀ j ∈ F6, wx.heap.size ≤ j := fun j hj => by have := HB5.out.size; rcases hf6 j hj with e | e; exact HF5.out j e; omega
              have hx6 : w6.cell? ⟨wr.heap.size, 2, none⟩ = some (.string S) := (hb6.cell (p := ⟨wr.heap.size, 2, none⟩) HXs.out).trans hxc2
              have HB6 := hid hb6; have HF6 := hid hg6; have HC6 := hid hc6
              clear hb6 hg6 hc6 hk6 hf6
              clear hx5
              go_wp2_with fail
              refine (tc_set_any w6 HC6.out 0 S).mono ?_
              rintro e w7 ⟨rfl, F7, hc7, hk7, hf7⟩
              have hb7 := below_keep HB6.out hk7 (fun j hj => HF6.out j hj) (by omega)
              have hg7 : ∀ j ∈ F7, wx.heap.size ≤ j := fun j hj => by have := HB6.out.size; rcases hf7 j hj with e | e; exact HF6.out j e; omega
              have hx7 : w7.cell? ⟨wr.heap.size, 2, none⟩ = some (.string S) := (hb7.cell (p := ⟨wr.heap.size, 2, none⟩) HXs.out).trans hxc2
              have HB7 := hid hb7; have HF7 := hid hg7; have HC7 := hid hc7
              clear hb7 hg7 hc7 hk7 hf7
              clear hx6 hx7
              have hE8 := HE.out.heap HB7.out
              have HE8 := hid hE8
              clear hE8
              go_wp2
              go_meet
              exact ⟨_, _, _, _, rfl, HE8.out⟩
          · as_aux_lemma =>
              have hX0 : (wr.alloc (.cells #[.int .i64 K, .int .i64 I, .string S] 48)).heap[wr.heap.size]? = some (Obj.cells #[.int .i64 K, .int .i64 I, .string S] 48 (0, 0)) := heap_alloc_new wr _
              have hE0 : Ex w (wr.alloc (.cells #[.int .i64 K, .int .i64 I, .string S] 48)) cb w2.heap.size sz cp rows rows F Lv := hH.out.heap ((Below.refl _ wr).alloc (Nat.le_refl _) _)
              have hXF : wr.heap.size ∉ F := fun hm => by have := hH.out.col.lt _ hm; omega
              have hXu : wr.heap.size ≠ w2.heap.size := by have := hH.out.ult; omega
              have hXs : wr.heap.size < (wr.alloc (.cells #[.int .i64 K, .int .i64 I, .string S] 48)).heap.size := by simp
              have HX := hid hX0; have HE := hid hE0; have HXF := hid hXF; have HXu := hid hXu; have HXs := hid hXs
              clear hX0 hE0 hXF hXu hXs
              have hk1 : (K == 1) = false := by simp; omega
              have hk2 : (K == 2) = false := by simp; omega
              have hk3 : (K == 3) = false := by simp; omega
              have hk4 : (K == 4) = false := by simp; omega
              have hk5 : (K == 5) = false := by simp; omega
              have hk6 : (K == 6) = false := by simp; omega
              have hk7 : (K == 7) = false := by simp; omega
              have hk8 : (K == 8) = false := by simp; omega
              clear hK
              go_wp2
              go_meet
              exact ⟨_, _, _, _, rfl, HE.out⟩
        case rest =>
          obtain ⟨cb', R, F', Lv', rfl, hE⟩ := hcut
          have HE4 := hid hE
          clear hE
          obtain ⟨p, c, hLv⟩ := owns_val HE4.out.ref.own
          have HLv := hid hLv
          have hu2 : wc.cell? ⟨w2.heap.size, 2, none⟩ = some (.slice p R.length c) := by rw [← hLv]; exact cell_of HE4.out.ref.head rfl
          have hul : w2.heap.size < wc.heap.size := HE4.out.ult
          have HT := hid (HE4.out.heap (Below.refl _ wc).drew)
          clear hLv
          go_wp2_with fail
          refine Plan.wp_region_plan2 [(false, 0, []), (false, 2, []), (false, 3, []), (false, 4, []), (false, 5, []), (true, 1, [5, 4, 3, 2]), (true, 6, []), (false, 7, []), (false, 8, []), (false, 9, []), (false, 11, []), (false, 12, []), (false, 13, []), (false, 14, []), (false, 15, []), (true, 10, [15, 14, 13, 12, 11]), (false, 16, []), (false, 17, []), (false, 18, []), (false, 19, []), (false, 21, []), (true, 20, [21]), (true, 22, []), (false, 23, []), (false, 24, []), (false, 25, []), (false, 26, []), (false, 28, []), (true, 27, [28]), (false, 29, []), (false, 30, []), (false, 31, []), (false, 32, []), (false, 34, []), (true, 33, [34]), (false, 35, []), (false, 36, [])] (by as_aux_lemma => kernel_rfl) (by as_aux_lemma => kernel_rfl) ?_
          repeat (refine Plan.plan_st rfl ?_; go_big_quiet_step (fail); refine wpQuiet_nil ?_)
          refine Plan.plan_ac rfl ?_
          go_wp2_with fail
          refine (tc_rows _ HT.out.col).mono ?_
          rintro e wa ⟨out, rfl, hown, hba⟩
          have hua := (hba.cell (p := ⟨w2.heap.size, 2, none⟩) hul).trans hu2
          have hEa := HT.out.heap hba
          have hle := hEa.col.le
          have hsame := rows_same wa hown hEa.ref.own (by omega) rfl
          rw [HLv.out] at hsame
          have HEa := hid hEa; have HS := hid hsame
          clear hEa hsame hown hba hle
          go_wp2
          refine Plan.planQ_mk ?_ ?_
          · repeat (refine Plan.chk_st rfl ?_ ?_; focus (go_big_quiet_step (fail); exact wpQuiet_nil rfl))
            exact Plan.chk_end
          refine Plan.plan_ac rfl ?_
          go_wp2_with fail
          refine HS.out.mono ?_
          rintro e wb ⟨rfl, nb, rfl⟩
          have hEb := HEa.out.heap (below_drewN (Below.refl _ wa) nb)
          have hl2 := hEb.col.c2
          have hc0' := hEb.col.c0
          have hc1' := hEb.col.c1
          have HEb := hid hEb
          clear hEb
          go_wp2
          refine Plan.planQ_mk ?_ ?_
          · repeat (refine Plan.chk_st rfl ?_ ?_; focus (go_big_quiet_step (fail); exact wpQuiet_nil rfl))
            exact Plan.chk_end
          repeat (refine Plan.plan_st rfl ?_; go_big_quiet_step (fail); refine wpQuiet_nil ?_)
          refine Plan.plan_ac rfl ?_
          go_wp2_with fail
          refine (col_len _ _ _ hl2).mono ?_
          rintro e wz ⟨rfl, rfl⟩
          go_wp2
          refine Plan.planQ_mk ?_ ?_
          · repeat (refine Plan.chk_st rfl ?_ ?_; focus (go_big_quiet_step (fail); exact wpQuiet_nil rfl))
            exact Plan.chk_end
          repeat (refine Plan.plan_st rfl ?_; go_big_quiet_step (fail); refine wpQuiet_nil ?_)
          refine Plan.plan_ac rfl ?_
          go_wp2_with fail
          refine (tc_chunks _ HEb.out.col).mono ?_
          rintro e wz ⟨rfl, rfl⟩
          go_wp2
          refine Plan.planQ_mk ?_ ?_
          · repeat (refine Plan.chk_st rfl ?_ ?_; focus (go_big_quiet_step (fail); exact wpQuiet_nil rfl))
            exact Plan.chk_end
          refine Plan.plan_ac rfl ?_
          go_wp2_with fail
          refine (ref_chunks _ HEb.out.ref).mono ?_
          rintro e wz ⟨rfl, rfl⟩
          go_wp2
          refine Plan.planQ_mk ?_ ?_
          · repeat (refine Plan.chk_st rfl ?_ ?_; focus (go_big_quiet_step (fail); exact wpQuiet_nil rfl))
            exact Plan.chk_end
          repeat (refine Plan.plan_st rfl ?_; go_big_quiet_step (fail); refine wpQuiet_nil ?_)
          refine Plan.plan_ac rfl ?_
          go_wp2_with fail
          refine (col_size _ _ _ hc0').mono ?_
          rintro e wz ⟨rfl, rfl⟩
          go_wp2
          refine Plan.planQ_mk ?_ ?_
          · repeat (refine Plan.chk_st rfl ?_ ?_; focus (go_big_quiet_step (fail); exact wpQuiet_nil rfl))
            exact Plan.chk_end
          repeat (refine Plan.plan_st rfl ?_; go_big_quiet_step (fail); refine wpQuiet_nil ?_)
          refine Plan.plan_ac rfl ?_
          go_wp2_with fail
          refine (col_cap _ _ _ hc1').mono ?_
          rintro e wz ⟨rfl, rfl⟩
          go_wp2
          refine Plan.planQ_mk ?_ ?_
          · repeat (refine Plan.chk_st rfl ?_ ?_; focus (go_big_quiet_step (fail); exact wpQuiet_nil rfl))
            exact Plan.chk_end
          repeat (refine Plan.plan_st rfl ?_; go_big_quiet_step (fail); refine wpQuiet_nil ?_)
          refine Plan.plan_end ?_
          go_wp2
          go_roundw
          case rel => exact ⟨k + 1, _, _, _, _, by omega, by go_num, rfl, HEb.out⟩
          case measure => simp [intOf]; omega
      · have hstop : ¬ ((k : Int) < (len : Int)) ∨ ((k : Int) < (len : Int) ∧ ¬ ((k : Int) < 120)) := by omega
        clear hlt
        rcases hstop with hs | ⟨hs, hs'⟩
        all_goals
          go_wp2
          go_ret
          exact ⟨rfl, hH.out.below⟩
  · exact exact_out size most a len cap_ w (by omega)

end Go.Proofs.Ytcdmegaebcjnlaa
