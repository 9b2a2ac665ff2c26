/- What is proved: what Line of the reference answers; Itoa of any number, by its table. -/
import Derived.Test.YtdekdefjfaoclaaDoorRf9
import Derived.Test.YtdekdefjfaoclaaDoorDif7
namespace Go.Proofs.YtdekdefjfaoclaaDoor
open Go.RowKit Go.Proofs.Heap Go.Proofs.Sch

theorem rf_dig (n : Int) (h0 : -9223372036854775808 ≤ n) (h1 : n ≤ 9223372036854775807) (w : World) :
    Calls Tryd.prog 25 #[.int .i64 n] w fun r w' => r = .returned (.string (itB n)) ∧ Keep (fun _ => False) w w' := by
  by_cases h : n < 0
  · obtain ⟨u, rfl⟩ : ∃ u : Nat, n = -(u : Int) := ⟨n.natAbs, by omega⟩
    refine (rf_digits_neg u (by omega) (by omega) w).mono ?_
    rintro r w' ⟨rfl, hk⟩
    refine ⟨?_, hk⟩
    unfold itB Lib.itoa
    rw [if_pos h, show (-(u : Int)).natAbs = u by omega]
  · obtain ⟨u, rfl⟩ : ∃ u : Nat, n = (u : Int) := ⟨n.toNat, by omega⟩
    refine (rf_digits u (by omega) w).mono ?_
    rintro r w' ⟨rfl, hk⟩
    refine ⟨?_, hk⟩
    unfold itB Lib.itoa
    rw [if_neg h, Int.toNat_natCast]

theorem keep_grow {w w' : World} (h : Keep (fun _ => False) w w') (k : Nat) (os : Array Obj) : Keep (fun _ => False) w (Sort.grow (w'.drewN k) os) :=
  ⟨h.os, h.tape, h.output, by rw [Sort.size_grow]; have := h.size; exact Nat.le_trans this (Nat.le_add_right _ _), fun b hb hs => by
    rw [Sort.heap_grow_old _ _ (show b < (w'.drewN k).heap.size from Nat.lt_of_lt_of_le hb h.size)]
    exact h.block b hb hs⟩
theorem tab_keep {name : String} {k : IntKind} {zs : List Int} {w w' : World} (h : Lib.TabIs Tryd.prog w name k zs) (hk : Keep (fun _ => False) w w') : Lib.TabIs Tryd.prog w' name k zs := by
  unfold Lib.TabIs World.var? at h ⊢
  cases hg : Tryd.prog.globalNamed name with
  | none => rw [hg] at h; cases h
  | some g =>
    rw [hg] at h
    simp only [Option.bind_some] at h ⊢
    cases ho : w.heap[g]? with
    | none => rw [ho] at h; cases h
    | some o =>
      rw [hk.get ho id]
      rw [ho] at h
      exact h
theorem it_all (n : Int) (h0 : -9223372036854775808 ≤ n) (h1 : n ≤ 9223372036854775807) (w : World) (htab : Lib.TabIs Tryd.prog w "internal/strconv.uint64pow10" .u64 Lib.pow10Tab) : ItOk n w := by
  refine ⟨?_, fun wy hy => ?_⟩
  · have := Lib.itoa_length_le n h0 h1
    simpa [itB, ByteArray.size] using this
  · refine (Tryd.strconv_Itoa n h0 h1 wy (tab_keep htab hy)).mono ?_
    rintro e w' ⟨rfl, k, os, rfl⟩
    exact ⟨rfl, keep_grow (Keep.refl _ wy) k os⟩
theorem lineB_assoc (x : Chg) : lineB x = if x.kind < 1 ∨ 7 < x.kind then ⟨#[]⟩ else if x.field = ⟨#[]⟩ then nmB x.kind.toNat ++ spB ++ itB x.comp else nmB x.kind.toNat ++ spB ++ itB x.comp ++ spB ++ x.field := by
  unfold lineB
  rw [ByteArray.append_assoc (a := nmB x.kind.toNat ++ spB ++ itB x.comp) (b := spB)]

set_option maxRecDepth 20000 in
set_option maxHeartbeats 4000000 in
theorem rf_line (x : Chg) (w : World) (hfl : x.field.size ≤ 1000000) (h0 : -9223372036854775808 ≤ x.comp) (h1 : x.comp ≤ 9223372036854775807) :
    Calls Tryd.prog 14 #[.agg #[.int .i64 x.kind, .int .i64 x.comp, .string x.field]] w fun r w' => r = .returned (.string (lineB x)) ∧ Keep (fun _ => False) w w' := by
  obtain ⟨kd, co, fl⟩ := x
  simp only at hfl h0 h1
  have HLB := hid (lineB_assoc ⟨kd, co, fl⟩)
  have hisz : (itB co).size ≤ 21 := by
    have := Lib.itoa_length_le co h0 h1
    simpa [itB, ByteArray.size] using this
  obtain ⟨w3, hw3, hb3, hs3, hk3⟩ := box1 w #[.int .i64 kd, .int .i64 co, .string fl] 41
  have HK := hid hk3
  have HC := hid (show -9223372036854775808 ≤ co ∧ co ≤ 9223372036854775807 from ⟨h0, h1⟩)
  clear hk3 hs3 h0 h1
  go_enter Tryd.func14, Tryd.ntmps14
  go_upto_region 1 with fail
  rw [← hw3]
  clear hw3
  generalize w.heap.size = sb at *
  have HW : Hid (∀ wy, Keep (fun _ => False) w3 wy → wy.cell? ⟨sb, 0, none⟩ = some (.int .i64 kd) ∧ wy.cell? ⟨sb, 1, none⟩ = some (.int .i64 co) ∧ wy.cell? ⟨sb, 2, none⟩ = some (.string fl)) := hid (fun wy hk =>
    ⟨cell_of (hk.get hb3 id) (by rfl), cell_of (hk.get hb3 id) (by rfl), cell_of (hk.get hb3 id) (by rfl)⟩)
  clear hb3
  obtain ⟨s0, s1, s2⟩ := HW.out _ (Keep.refl _ w3)
  by_cases hlo : kd < 1
  · have g1 : decide (kd < 1) = true := decide_eq_true hlo
    have G : Hid (lineB ⟨kd, co, fl⟩ = ⟨#[]⟩) := hid (if_pos (.inl hlo))
    go_wp2
    go_ret
    exact ⟨by rw [G.out]; rfl, HK.out⟩
  by_cases hhi : 7 < kd
  · have g1 : decide (kd < 1) = false := decide_eq_false hlo
    have g2 : decide (7 < kd) = true := decide_eq_true hhi
    have G : Hid (lineB ⟨kd, co, fl⟩ = ⟨#[]⟩) := hid (if_pos (.inr hhi))
    go_wp2
    go_ret
    exact ⟨by rw [G.out]; rfl, HK.out⟩
  have g1 : decide (kd < 1) = false := decide_eq_false hlo
  have g2 : decide (7 < kd) = false := decide_eq_false hhi
  obtain ⟨k, rfl⟩ : ∃ k : Nat, kd = (k : Int) := ⟨kd.toNat, by omega⟩
  have hk7 : 1 ≤ k ∧ k ≤ 7 := by omega
  obtain ⟨w4, hw4, hb4, hs4, hk4⟩ := box1 w3 NMS 64
  have HK4 := hid hk4
  have HB4 := hid hb4
  clear hs4 hk4 hb4
  go_upto_region 4 with fail
  rw [← hw4]
  clear g1 g2 hlo hhi s0 s1 s2 hw4
  generalize w3.heap.size = nb at *
  have HKD := hid HK4.out.drew
  obtain ⟨s0, s1, s2⟩ := HW.out _ HKD.out
  have c0 : w4.drew.cell? ⟨nb, k, none⟩ = some (.string (nmB k)) := cell_of HB4.out (nms_at k (by omega))
  have hin : (0 : Int) ≤ (k : Int) ∧ (k : Int) < 8 := ⟨by omega, by omega⟩
  have hnm := nmB_size k
  refine Plan.wp_region_pl [(false, 0, []), (false, 1, []), (false, 2, []), (false, 3, []), (false, 4, []), (false, 5, []), (false, 6, []), (true, 7, [4, 3, 2, 1, 0]), (false, 8, []), (false, 9, [])] (by kernel_rfl) (by kernel_rfl) ?_
  iterate 7 (refine Plan.pl_st rfl ?_; go_big_quiet_step (fail); refine wpQuiet_nil ?_)
  refine Plan.pl_ac rfl ?_
  go_wp2_with fail
  refine (rf_dig co HC.out.1 HC.out.2 _).mono ?_
  rintro r w5 ⟨rfl, hk5⟩
  have HK5 := hid (HKD.out.trans hk5)
  have HB5 := hid (hk5.get (show w4.drew.heap[nb]? = _ from HB4.out) id)
  clear hk5 s0 s1 s2 c0
  obtain ⟨s0, s1, s2⟩ := HW.out _ HK5.out
  have c0 : w5.cell? ⟨nb, k, none⟩ = some (.string (nmB k)) := cell_of HB5.out (nms_at k (by omega))
  have G : Hid (lineB ⟨(k : Int), co, fl⟩ = if fl = ⟨#[]⟩ then nmB k ++ spB ++ itB co else nmB k ++ spB ++ itB co ++ spB ++ fl) := hid (HLB.out.trans (if_neg (show ¬ ((k : Int) < 1 ∨ 7 < (k : Int)) by omega)))
  clear HLB
  generalize itB co = tx at *
  generalize nmB k = nm at *
  go_wp2
  refine Plan.plQ_mk ?_ ?_
  · iterate 5 (refine Plan.chk_st rfl ?_ ?_; focus (go_big_quiet_step (fail); exact wpQuiet_nil rfl))
    exact Plan.chk_end
  iterate 2 (refine Plan.pl_st rfl ?_; go_big_quiet_step (fail); refine wpQuiet_nil ?_)
  refine Plan.pl_end ?_
  by_cases he : fl = ⟨#[]⟩
  · subst he
    go_wp2
    go_ret
    exact ⟨by rw [G.out, if_pos True.intro]; rfl, HK.out.trans HK5.out⟩
  · have g2 : (!fl.toList.isEmpty) = true := by
      rw [empty_no (fun h => he ?_)]
      · rfl
      · obtain ⟨⟨l⟩⟩ := fl
        cases l with
        | nil => rfl
        | cons a l => simp [ByteArray.size] at h
    have HNE := hid he
    clear he
    go_wp2
    go_ret
    exact ⟨by rw [G.out, if_neg HNE.out]; rfl, HK.out.trans HK5.out⟩
end Go.Proofs.YtdekdefjfaoclaaDoor
