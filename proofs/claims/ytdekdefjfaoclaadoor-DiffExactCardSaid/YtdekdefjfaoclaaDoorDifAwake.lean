/- What is proved: the law's awake answers true, and what its great says. -/
import Derived.Test.YtdekdefjfaoclaaDoorDif4
import Derived.Test.YtdekdefjfaoclaaDoorDif7
import Derived.Test.YtdekdefjfaoclaaDoorSchSized
namespace Go.Proofs.YtdekdefjfaoclaaDoor
open Go.RowKit Go.Proofs.Heap Go.Proofs.Sch

abbrev xB : ByteArray := ⟨#[120]⟩
abbrev yB : ByteArray := ⟨#[121]⟩
abbrev hpB : ByteArray := ⟨#[104, 112]⟩
abbrev mpB : ByteArray := ⟨#[109, 112]⟩
def TDA : List Cmp := [⟨2, hpB, [⟨xB, 6, 1⟩]⟩]
def TDB : List Cmp := [⟨2, hpB, [⟨xB, 6, 1⟩, ⟨yB, 6, 1⟩]⟩, ⟨3, mpB, []⟩]
theorem dt_e1 : diffE 1 TDA 2 TDB = 0 := by decide +kernel
theorem dt_e2 : diffE 1 TDA 1 TDA = 0 := by decide +kernel
theorem dt_e3 : diffE 0 [] 2 TDB = 1 := by decide +kernel
theorem dt_l1 : ofE 1 TDA 2 TDB = [⟨5, 2, yB⟩, ⟨1, 3, noN⟩] := by decide +kernel
theorem dt_l2 : ofE 1 TDA 1 TDA = [] := by decide +kernel
theorem dt_k : keptE 1 TDA 2 TDB = [2] := by decide +kernel
theorem it_two : itB 2 = ⟨#[50]⟩ := by
  unfold itB Lib.itoa
  rw [if_neg (by omega), Lib.decDigits, dif_pos (by decide)]
  rfl
theorem it_three : itB 3 = ⟨#[51]⟩ := by
  unfold itB Lib.itoa
  rw [if_neg (by omega), Lib.decDigits, dif_pos (by decide)]
  rfl
abbrev l1B : ByteArray := ⟨#[102, 105, 101, 108, 100, 97, 100, 100, 101, 100, 32, 50, 32, 121]⟩
abbrev l2B : ByteArray := ⟨#[97, 100, 100, 101, 100, 32, 51]⟩
theorem dt_lines : linesL [⟨5, 2, yB⟩, ⟨1, 3, noN⟩] = [l1B, l2B] := by
  have h1 : lineB ⟨5, 2, yB⟩ = l1B := by
    unfold lineB
    rw [if_neg (by decide), if_neg (by decide), it_two]
    rfl
  have h2 : lineB ⟨1, 3, noN⟩ = l2B := by
    unfold lineB
    rw [if_neg (by decide), if_pos rfl, it_three]
    rfl
  unfold linesL
  rw [List.map_cons, List.map_cons, List.map_nil, h1, h2]
theorem mid_a : Mid TDA := ⟨by decide, by intro c hc; simp only [TDA, List.mem_singleton] at hc; subst hc; decide⟩
theorem mid_b : Mid TDB := ⟨by decide, by
  intro c hc
  simp only [TDB, List.mem_cons, List.not_mem_nil, or_false] at hc
  rcases hc with rfl | rfl <;> decide⟩

set_option maxRecDepth 20000 in
set_option maxHeartbeats 8000000 in
theorem awake_true (w : World) : Calls Tryd.prog 7 #[] w fun r w' => r = .returned (.bool true) ∧ Keep (fun _ => False) w w' := by
  obtain ⟨w5, hw5, hb1, hb2, hb3, hb4, hb5, hs5, hk5⟩ := box5 w #[.string xB, .int .i64 6, .int .i64 1] #[.string yB, .int .i64 6, .int .i64 1] #[.string xB, .int .i64 6, .int .i64 1]
    #[.int .i64 2, .string hpB, .slice (some ⟨w.heap.size + 1 + 1, 0, none⟩) 1 1] #[.int .i64 1, .slice (some ⟨w.heap.size + 1 + 1 + 1, 0, none⟩) 1 1] 53 53 53 46 24
  obtain ⟨w8, hw8, hc1, hc2, hc3, hs8, hk8⟩ := box3 w5 #[.string xB, .int .i64 6, .int .i64 1, .string yB, .int .i64 6, .int .i64 1] #[.int .i64 2, .string hpB, .slice (some ⟨w5.heap.size, 0, none⟩) 2 2, .int .i64 3, .string mpB, .slice none 0 0]
    #[.int .i64 2, .slice (some ⟨w5.heap.size + 1, 0, none⟩) 2 2] 53 46 24
  have f0 : w5.cell? ⟨w.heap.size, 0, none⟩ = some (.string xB) := cell_of hb1 (by rfl)
  have f1 : w5.cell? ⟨w.heap.size, 1, none⟩ = some (.int .i64 6) := cell_of hb1 (by rfl)
  have f2 : w5.cell? ⟨w.heap.size, 2, none⟩ = some (.int .i64 1) := cell_of hb1 (by rfl)
  have g0 : w5.cell? ⟨w.heap.size + 1, 0, none⟩ = some (.string yB) := cell_of hb2 (by rfl)
  have g1 : w5.cell? ⟨w.heap.size + 1, 1, none⟩ = some (.int .i64 6) := cell_of hb2 (by rfl)
  have g2 : w5.cell? ⟨w.heap.size + 1, 2, none⟩ = some (.int .i64 1) := cell_of hb2 (by rfl)
  have HK := hid (hk5.trans hk8)
  clear hs5 hs8
  go_enter Tryd.func7, Tryd.ntmps7
  go_upto_region 4 with fail
  rw [← hw5]
  clear hw5
  go_upto_region 5 with fail
  rw [← hw8]
  clear hw8 f0 f1 f2 g0 g1 g2
  generalize hsb : w.heap.size = sb at *
  generalize hsc : w5.heap.size = sc at *
  replace hb3 := hk8.get hb3 id
  replace hb4 := hk8.get hb4 id
  replace hb5 := hk8.get hb5 id
  have HCA : Hid (∀ wy, Keep (fun _ => False) w8 wy → (wy.cell? ⟨sb + 1 + 1 + 1 + 1, 0, none⟩ = some (.int .i64 1) ∧ wy.cell? ⟨sb + 1 + 1 + 1 + 1, 1, none⟩ = some (.slice (some ⟨sb + 1 + 1 + 1, 0, none⟩) 1 1)) ∧ CP wy wy.heap.size (some ⟨sb + 1 + 1 + 1, 0, none⟩) TDA) := hid (fun wy hk => by
    have k3 := hk.get hb3 id; have k4 := hk.get hb4 id; have k5 := hk.get hb5 id
    refine ⟨⟨cell_of k5 (by rfl), cell_of k5 (by rfl)⟩, .inr ⟨_, 0, rfl, lt_of_heap k4, fun i x hx => ?_⟩⟩
    match i, hx with
    | 0, hx =>
      injection hx with hx
      subst hx
      refine ⟨cell_of k4 (by rfl), cell_of k4 (by rfl), _, 1, cell_of k4 (by rfl), by decide, .inr ⟨_, 0, rfl, lt_of_heap k3, fun j y hy => ?_⟩⟩
      match j, hy with
      | 0, hy =>
        injection hy with hy
        subst hy
        exact ⟨cell_of k3 (by rfl), cell_of k3 (by rfl), cell_of k3 (by rfl)⟩
      | _ + 1, hy => simp at hy
    | _ + 1, hx => simp [TDA] at hx)
  have HCB : Hid (∀ wy, Keep (fun _ => False) w8 wy → (wy.cell? ⟨sc + 1 + 1, 0, none⟩ = some (.int .i64 2) ∧ wy.cell? ⟨sc + 1 + 1, 1, none⟩ = some (.slice (some ⟨sc + 1, 0, none⟩) 2 2)) ∧ CP wy wy.heap.size (some ⟨sc + 1, 0, none⟩) TDB) := hid (fun wy hk => by
    have k3 := hk.get hc1 id; have k4 := hk.get hc2 id; have k5 := hk.get hc3 id
    refine ⟨⟨cell_of k5 (by rfl), cell_of k5 (by rfl)⟩, .inr ⟨_, 0, rfl, lt_of_heap k4, fun i x hx => ?_⟩⟩
    match i, hx with
    | 0, hx =>
      injection hx with hx
      subst hx
      refine ⟨cell_of k4 (by rfl), cell_of k4 (by rfl), _, 2, cell_of k4 (by rfl), by decide, .inr ⟨_, 0, rfl, lt_of_heap k3, fun j y hy => ?_⟩⟩
      match j, hy with
      | 0, hy =>
        injection hy with hy
        subst hy
        exact ⟨cell_of k3 (by rfl), cell_of k3 (by rfl), cell_of k3 (by rfl)⟩
      | 1, hy =>
        injection hy with hy
        subst hy
        exact ⟨cell_of k3 (by rfl), cell_of k3 (by rfl), cell_of k3 (by rfl)⟩
      | _ + 2, hy => simp at hy
    | 1, hx =>
      injection hx with hx
      subst hx
      exact ⟨cell_of k4 (by rfl), cell_of k4 (by rfl), none, 0, cell_of k4 (by rfl), by decide, .inl rfl⟩
    | _ + 2, hx => simp [TDB] at hx)
  clear hb1 hb2 hb3 hb4 hb5 hc1 hc2 hc3 hk5 hk8 hsc
  obtain ⟨⟨a0, a1⟩, ha⟩ := HCA.out _ (Keep.refl _ _)
  obtain ⟨⟨b0, b1⟩, hb⟩ := HCB.out _ (Keep.refl _ _)
  have HL := hid (dif_lines 1 TDA (some ⟨sb + 1 + 1 + 1, 0, none⟩) 1 2 TDB (some ⟨sc + 1, 0, none⟩) 2 w8 mid_a mid_b (by
    rw [dt_l1]
    intro x hx
    simp only [List.mem_cons, List.not_mem_nil, or_false] at hx
    rcases hx with rfl | rfl
    · exact ⟨by decide, it_small _ (by decide) (by decide) _⟩
    · exact ⟨by decide, it_small _ (by decide) (by decide) _⟩) ha hb)
  clear ha hb
  go_wp2_with fail
  refine HL.out.mono ?_
  rw [dt_e1, dt_l1, dt_lines]
  rintro r x1 ⟨v1, rfl, ho1, hk1⟩
  clear HL a0 a1 b0 b1
  obtain ⟨p1, c1, rfl⟩ := owns_val ho1
  have HX1 := hid hk1
  have HO1 := hid ho1
  clear ho1 hk1
  obtain ⟨⟨a0, a1⟩, ha⟩ := HCA.out _ HX1.out
  have HL := hid (dif_of 1 TDA (some ⟨sb + 1 + 1 + 1, 0, none⟩) 1 1 TDA (some ⟨sb + 1 + 1 + 1, 0, none⟩) 1 x1 mid_a mid_a ha ha)
  clear ha
  go_wp2_with fail
  refine HL.out.mono ?_
  rw [dt_e2, dt_l2]
  rintro r x2 ⟨v2, rfl, ho2, hk2⟩
  clear HL a0 a1
  obtain ⟨p2, c2, rfl⟩ := owns_val ho2
  have HX2 := hid (HX1.out.trans hk2)
  have HO12 := hid (owns_keep HO1.out (fun q hq => hk2.block q (HO1.out.lt q hq).2 id))
  clear ho2 hk2 HO1
  obtain ⟨⟨b0, b1⟩, hb⟩ := HCB.out _ HX2.out
  have HL := hid (dif_of 0 [] none 0 2 TDB (some ⟨sc + 1, 0, none⟩) 2 x2 ⟨by decide, by simp⟩ mid_b (.inl rfl) hb)
  clear hb
  go_wp2_with fail
  refine HL.out.mono ?_
  rw [dt_e3]
  rintro r x3 ⟨v3, rfl, _, hk3⟩
  clear HL b0 b1
  have HX3 := hid (HX2.out.trans hk3)
  have HO13 := hid (owns_keep HO12.out (fun q hq => hk3.block q (HO12.out.lt q hq).2 id))
  clear hk3 HO12
  obtain ⟨⟨a0, a1⟩, ha⟩ := HCA.out _ HX3.out
  obtain ⟨⟨b0, b1⟩, hb⟩ := HCB.out _ HX3.out
  have HL := hid (dif_kept 1 TDA (some ⟨sb + 1 + 1 + 1, 0, none⟩) 1 2 TDB (some ⟨sc + 1, 0, none⟩) 2 x3 mid_a mid_b ha hb)
  clear ha hb
  go_wp2_with fail
  refine HL.out.mono ?_
  rw [dt_k]
  rintro r x4 ⟨v4, rfl, ho4, hk4⟩
  clear HL a0 a1 b0 b1
  obtain ⟨p4, c4, rfl⟩ := owns_val ho4
  have HX4 := hid (HX3.out.trans hk4)
  have ho1 := owns_keep HO13.out (fun q hq => hk4.block q (HO13.out.lt q hq).2 id)
  clear hk4 HO13
  obtain ⟨g1, rfl⟩ := owns_some ho1 (by decide)
  obtain ⟨g4, rfl⟩ := owns_some ho4 (by decide)
  have d0 : x4.cell? ⟨g1, 0, none⟩ = some (.string l1B) := owns_cell ho1 (by decide)
  have d1 : x4.cell? ⟨g1, 1, none⟩ = some (.string l2B) := owns_cell ho1 (by decide)
  have d2 : x4.cell? ⟨g4, 0, none⟩ = some (.int .i64 2) := owns_cell ho4 (by decide)
  clear ho1 ho4
  go_wp2
  go_ret
  exact ⟨rfl, HK.out.trans HX4.out⟩
end Go.Proofs.YtdekdefjfaoclaaDoor
