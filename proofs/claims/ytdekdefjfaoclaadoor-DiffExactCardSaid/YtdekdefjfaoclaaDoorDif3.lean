/- What is proved: what check, Of and Kept of the diff answer. -/
import Derived.Test.YtdekdefjfaoclaaDoorDif2
import Derived.Test.YtdekdefjfaoclaaDoorSchCheck
namespace Go.Proofs.YtdekdefjfaoclaaDoor
open Go.RowKit Go.Proofs.Heap Go.Proofs.Sch

/-- All changes, where both can be. -/
def ofE (va : Int) (ca : List Cmp) (vb : Int) (cb : List Cmp) : List Chg := if diffE va ca vb cb = 0 then ofL ca cb else []
/-- A schema of no great size. -/
def Mid (cs : List Cmp) : Prop := cs.length ≤ 65536 ∧ ∀ c ∈ cs, c.fs.length ≤ 65536
theorem Mid.small {cs : List Cmp} (h : Mid cs) : Small cs := ⟨by have := h.1; omega, fun c hc => by have := h.2 c hc; omega⟩
theorem foundC_mid {cs : List Cmp} (h : Mid cs) (id : Int) : (foundC cs id).fs.length ≤ 65536 := by
  unfold foundC
  split
  · simp [nilC]
  · cases e : cs[(idxI (fun c : Cmp => decide (c.id = id)) cs).toNat]? with
    | none => simp [nilC]
    | some c => exact h.2 c (List.mem_of_getElem? e)
theorem compL_le {a b : Cmp} (ha : a.fs.length ≤ 65536) (hb : b.fs.length ≤ 65536) : (compL a b).length ≤ 262144 := by
  unfold compL
  have h1 := missL_len a.fs b.fs 4 a.id; have h2 := missL_len b.fs a.fs 5 b.id; have h3 := retyL_len a.fs b.fs a.id
  have h4 : (if a.name = b.name then [] else [(⟨3, a.id, noN⟩ : Chg)]).length ≤ 1 := by split <;> simp
  have h5 : (if comL a.fs b.fs = comL b.fs a.fs then [] else [(⟨7, a.id, noN⟩ : Chg)]).length ≤ 1 := by split <;> simp
  simp only [List.length_append]
  omega
theorem ofN_le {ca cb : List Cmp} (ha : Mid ca) (hb : Mid cb) : ∀ n, (ofN ca cb n).length ≤ n * 262144
  | 0 => by simp [ofN]
  | n + 1 => by
    unfold ofN
    have h1 := ofN_le ha hb n
    have h2 : (stepL ca cb ((n : Int) + 1)).length ≤ 262144 := by
      unfold stepL
      split <;> split <;> first | exact compL_le (foundC_mid ha _) (foundC_mid hb _) | simp
    rw [List.length_append]
    omega

set_option maxRecDepth 20000 in
set_option maxHeartbeats 4000000 in
theorem dif_check (va : Int) (ca : List Cmp) (p : Option Addr) (z : Nat) (vb : Int) (cb : List Cmp) (p2 : Option Addr) (z2 : Nat) (w : World) (ha : Small ca) (hb : Small cb) (hca : CP w w.heap.size p ca) (hcb : CP w w.heap.size p2 cb) :
    Calls Tryd.prog 20 #[.agg #[.int .i64 va, .slice p ca.length z], .agg #[.int .i64 vb, .slice p2 cb.length z2]] w fun r w' => r = .returned (iV (diffE va ca vb cb)) ∧ Keep (fun _ => False) w w' := by
  obtain ⟨w3, hw3, hb1, hb2, hs3, hk3⟩ := box2 w #[.int .i64 va, .slice p ca.length z] #[.int .i64 vb, .slice p2 cb.length z2] 24 24
  have HK := hid hk3
  have HD : Hid (∀ wy, Keep (fun _ => False) w3 wy → CP wy wy.heap.size p ca ∧ CP wy wy.heap.size p2 cb) := hid (fun wy hk =>
    ⟨CP.mono (CP.low hca (Low.keep0 (hk3.trans hk))) (hk3.trans hk).size, CP.mono (CP.low hcb (Low.keep0 (hk3.trans hk))) (hk3.trans hk).size⟩)
  clear hca hcb hk3 hs3
  go_enter Tryd.func20, Tryd.ntmps20
  go_upto_region 1 with fail
  rw [← hw3]
  clear hw3
  generalize w.heap.size = sb at *
  have HW : Hid (∀ wy, Keep (fun _ => False) w3 wy → (wy.cell? ⟨sb, 0, none⟩ = some (.int .i64 va) ∧ wy.cell? ⟨sb, 1, none⟩ = some (.slice p ca.length z)) ∧ (wy.cell? ⟨sb + 1, 0, none⟩ = some (.int .i64 vb) ∧ wy.cell? ⟨sb + 1, 1, none⟩ = some (.slice p2 cb.length z2))) := hid (fun wy hk =>
    ⟨⟨cell_of (hk.get hb1 id) (by rfl), cell_of (hk.get hb1 id) (by rfl)⟩, ⟨cell_of (hk.get hb2 id) (by rfl), cell_of (hk.get hb2 id) (by rfl)⟩⟩)
  clear hb1 hb2
  obtain ⟨⟨s0, s1⟩, s2, s3⟩ := HW.out _ (Keep.refl _ w3)
  go_wp2_with fail
  refine (sch_check va ca p z _ ha (HD.out _ (Keep.refl _ w3)).1).mono ?_
  rintro r w4 ⟨rfl, hk4⟩
  have HK4 := hid hk4
  clear hk4 s0 s1 s2 s3
  obtain ⟨⟨s0, s1⟩, s2, s3⟩ := HW.out _ HK4.out
  have HE : Hid (diffE va ca vb cb = if checkC va ca = 0 then checkC vb cb else checkC va ca) := hid rfl
  by_cases hck : checkC va ca = 0
  rotate_left
  · have HE2 : Hid (diffE va ca vb cb = checkC va ca) := hid (by rw [HE.out, if_neg hck])
    clear HE
    generalize checkC va ca = e at *
    have g1 : ((e : Int) != 0) = true := by simp only [bne, beq_eq_false_iff_ne.2 (show (e : Int) ≠ 0 by omega)]; rfl
    have g2 : (e != 0) = true := by simp only [bne, beq_eq_false_iff_ne.2 hck]; rfl
    have g3 : ((e : Int) == 0) = false := beq_eq_false_iff_ne.2 (by omega)
    have g4 : (e == 0) = false := beq_eq_false_iff_ne.2 hck
    clear hck
    go_wp2
    go_ret
    exact ⟨by rw [HE2.out]; rfl, HK.out.trans HK4.out⟩
  have HE2 : Hid (diffE va ca vb cb = checkC vb cb) := hid (by rw [HE.out, if_pos hck])
  clear HE
  rw [hck]
  clear hck
  go_wp2_with fail
  refine (sch_check vb cb p2 z2 _ hb (HD.out _ HK4.out).2).mono ?_
  rintro r w5 ⟨rfl, hk5⟩
  go_wp2
  go_ret
  exact ⟨by rw [HE2.out]; rfl, HK.out.trans (HK4.out.trans hk5)⟩

set_option maxRecDepth 20000 in
set_option maxHeartbeats 8000000 in
theorem dif_of (va : Int) (ca : List Cmp) (p : Option Addr) (z : Nat) (vb : Int) (cb : List Cmp) (p2 : Option Addr) (z2 : Nat) (w : World) (ha : Mid ca) (hb : Mid cb) (hca : CP w w.heap.size p ca) (hcb : CP w w.heap.size p2 cb) :
    Calls Tryd.prog 10 #[.agg #[.int .i64 va, .slice p ca.length z], .agg #[.int .i64 vb, .slice p2 cb.length z2]] w fun r w' => ∃ v, r = .returned (.tuple #[v, iV (diffE va ca vb cb)]) ∧
      w'.ownsRow w.heap.size 40 3 v (ofE va ca vb cb).length ((ofE va ca vb cb).flatMap ccl3) ∧ Keep (fun _ => False) w w' := by
  obtain ⟨i0, hi0, hz0, hz1, hz2⟩ := info_parts' info_chg
  obtain ⟨w3, hw3, hb1, hb2, hs3, hk3⟩ := box2 w #[.int .i64 va, .slice p ca.length z] #[.int .i64 vb, .slice p2 cb.length z2] 24 24
  have HK := hid hk3
  have HD : Hid (∀ wy, Keep (fun _ => False) w3 wy → CP wy wy.heap.size p ca ∧ CP wy wy.heap.size p2 cb) := hid (fun wy hk =>
    ⟨CP.mono (CP.low hca (Low.keep0 (hk3.trans hk))) (hk3.trans hk).size, CP.mono (CP.low hcb (Low.keep0 (hk3.trans hk))) (hk3.trans hk).size⟩)
  have HA := hid ha; have HB := hid hb
  have HS3 := hid hk3.size
  clear hca hcb hk3 hs3 ha hb
  go_enter Tryd.func10, Tryd.ntmps10
  go_upto_region 1 with fail
  rw [← hw3]
  clear hw3
  generalize hsb : w.heap.size = sb at *
  have HW : Hid (∀ wy, Keep (fun _ => False) w3 wy → (wy.cell? ⟨sb, 0, none⟩ = some (.int .i64 va) ∧ wy.cell? ⟨sb, 1, none⟩ = some (.slice p ca.length z)) ∧ (wy.cell? ⟨sb + 1, 0, none⟩ = some (.int .i64 vb) ∧ wy.cell? ⟨sb + 1, 1, none⟩ = some (.slice p2 cb.length z2))) := hid (fun wy hk =>
    ⟨⟨cell_of (hk.get hb1 id) (by rfl), cell_of (hk.get hb1 id) (by rfl)⟩, ⟨cell_of (hk.get hb2 id) (by rfl), cell_of (hk.get hb2 id) (by rfl)⟩⟩)
  clear hb1 hb2
  obtain ⟨⟨s0, s1⟩, s2, s3⟩ := HW.out _ (Keep.refl _ w3)
  go_wp2_with fail
  refine (dif_check va ca p z vb cb p2 z2 _ HA.out.small HB.out.small (HD.out _ (Keep.refl _ w3)).1 (HD.out _ (Keep.refl _ w3)).2).mono ?_
  rintro r w4 ⟨rfl, hk4⟩
  have HK4 := hid hk4
  clear hk4 s0 s1 s2 s3
  by_cases hck : diffE va ca vb cb = 0
  rotate_left
  · obtain ⟨e, he⟩ : ∃ e, diffE va ca vb cb = e := ⟨_, rfl⟩
    rw [he] at hck ⊢
    have HE := hid he
    clear he
    have g1 : ((e : Int) != 0) = true := by simp only [bne, beq_eq_false_iff_ne.2 (show (e : Int) ≠ 0 by omega)]; rfl
    have g2 : (e != 0) = true := by simp only [bne, beq_eq_false_iff_ne.2 hck]; rfl
    have g3 : ((e : Int) == 0) = false := beq_eq_false_iff_ne.2 (by omega)
    have g4 : (e == 0) = false := beq_eq_false_iff_ne.2 hck
    clear hck
    go_wp2
    (try simp only [Exit.inBlock, Exit.then])
    refine bodyPost_ret (results_tt rfl _) rfl ?_
    rw [show ofE va ca vb cb = [] from if_neg (by rw [HE.out]; simpa using g4), HE.out]
    exact ⟨_, rfl, World.ownsRow_nil _ _ _ _, HK.out.trans HK4.out⟩
  rw [hck]
  have HE := hid hck
  clear hck
  go_wp2_with fail
  go_loopw [7, 8, 9, 10, 11, 12] (fun v i _ _ _ _ wr => ∃ k : Nat, k ≤ 24 ∧ i = .int .i64 ((k : Int) + 1) ∧ wr.ownsRow w3.heap.size 40 3 v (ofN ca cb k).length ((ofN ca cb k).flatMap ccl3) ∧ Keep (fun _ => False) w3 wr) (fun _ i _ _ _ _ _ => 26 - (intOf i).toNat)
  case atStart => exact ⟨0, Nat.zero_le _, rfl, World.ownsRow_nil _ _ _ _, HK4.out⟩
  case round =>
    clear HK4
    obtain ⟨k, hk, rfl, how, hkr⟩ := hrel
    obtain ⟨vp, vc, rfl⟩ := owns_val how
    have HO := hid how; have HKR := hid hkr
    clear how hkr
    by_cases hlt : k < 24
    · have g0 : decide ((k : Int) + 1 ≤ 24) = true := decide_eq_true (by omega)
      have HLE := hid (ofN_le HA.out HB.out k)
      have HNX : Hid (ofN ca cb (k + 1) = ofN ca cb k ++ stepL ca cb ((k : Int) + 1)) := hid rfl
      have HFA := hid (foundC_mid HA.out ((k : Int) + 1)); have HFB := hid (foundC_mid HB.out ((k : Int) + 1))
      have HMA : Hid (inC ca ((k : Int) + 1) = true → (foundC ca ((k : Int) + 1)).id = (k : Int) + 1) := hid (fun h => (foundC_mem h).2)
      have HMB : Hid (inC cb ((k : Int) + 1) = true → (foundC cb ((k : Int) + 1)).id = (k : Int) + 1) := hid (fun h => (foundC_mem h).2)
      have HCM : Hid ((compL (foundC ca ((k : Int) + 1)) (foundC cb ((k : Int) + 1))).length ≤ 262144) := hid (compL_le HFA.out HFB.out)
      have HST : Hid (stepL ca cb ((k : Int) + 1) = if inC ca ((k : Int) + 1) = true then (if inC cb ((k : Int) + 1) = true then compL (foundC ca ((k : Int) + 1)) (foundC cb ((k : Int) + 1)) else [⟨2, (k : Int) + 1, noN⟩]) else (if inC cb ((k : Int) + 1) = true then [⟨1, (k : Int) + 1, noN⟩] else [])) := hid rfl
      obtain ⟨⟨s0, s1⟩, s2, s3⟩ := HW.out _ HKR.out
      go_wp2_with fail
      refine (find_c ((k : Int) + 1) va ca p z _ HA.out.small (HD.out _ HKR.out).1).mono ?_
      rintro r x1 ⟨q1, y1, rfl, hf1, hk1⟩
      have HX1 := hid (HKR.out.trans hk1)
      have HO1 := hid (owns_keep HO.out (fun q hq => hk1.block q (HO.out.lt q hq).2 id))
      clear s0 s1 s2 s3
      generalize hcA : foundC ca ((k : Int) + 1) = cA at *
      generalize hcB : foundC cb ((k : Int) + 1) = cB at *
      obtain ⟨b1, hb1⟩ : ∃ b1, inC ca ((k : Int) + 1) = b1 := ⟨_, rfl⟩
      obtain ⟨b2, hb2⟩ : ∃ b2, inC cb ((k : Int) + 1) = b2 := ⟨_, rfl⟩
      obtain ⟨ai, an, fs⟩ := cA
      obtain ⟨bi, bn, gs⟩ := cB
      simp only at hf1
      obtain ⟨w5, hw5, hc5, hs5, hk5⟩ := box1 x1 #[.int .i64 ai, .string an, .slice q1 fs.length y1] 46
      have HK5 := hid (HX1.out.trans hk5)
      have HO5 := hid (owns_keep HO1.out (fun q hq => hk5.block q (HO1.out.lt q hq).2 id))
      have HF5 := hid (FP.mono (FP.low hf1 (Low.keep0 hk5)) hk5.size)
      have HC5 := hid hc5
      clear hf1 hk1 hc5 hs5 hk5
      rw [show ca.any (fun c => decide (c.id = (k : Int) + 1)) = b1 from hb1]
      go_upto_region 9 with fail
      rw [← hw5]
      clear hw5
      generalize x1.heap.size = xb at *
      obtain ⟨⟨s0, s1⟩, s2, s3⟩ := HW.out _ HK5.out
      go_wp2_with fail
      refine (find_c ((k : Int) + 1) vb cb p2 z2 _ HB.out.small (HD.out _ HK5.out).2).mono ?_
      rintro r x7 ⟨q7, y7, rfl, hf7, hk7⟩
      rw [hcB]
      rw [hcB] at hf7
      simp only at hf7
      have HX7 := hid (HK5.out.trans hk7)
      have HO7 := hid (owns_keep HO5.out (fun q hq => hk7.block q (HO5.out.lt q hq).2 id))
      have HC7 := hid (hk7.get HC5.out id)
      have HF7 := hid (FP.mono (FP.low HF5.out (Low.keep0 hk7)) hk7.size)
      obtain ⟨w8, hw8, hc8, hs8, hk8⟩ := box1 x7 #[.int .i64 bi, .string bn, .slice q7 gs.length y7] 46
      have HK8 := hid (HX7.out.trans hk8)
      have HO8 := hid (owns_keep HO7.out (fun q hq => hk8.block q (HO7.out.lt q hq).2 id))
      have HFA8 := hid (FP.mono (FP.low HF7.out (Low.keep0 hk8)) hk8.size)
      have HFB8 := hid (FP.mono (FP.low hf7 (Low.keep0 hk8)) hk8.size)
      have HC8 := hid (hk8.get HC7.out id)
      have HE8 := hid hc8
      clear hf7 hk7 hc8 hs8 hk8 s0 s1 s2 s3
      rw [show cb.any (fun c => decide (c.id = (k : Int) + 1)) = b2 from hb2]
      go_upto_block 2 with fail
      rw [← hw8]
      clear hw8
      generalize x7.heap.size = yb at *
      have HCA := hid hcA; have HCB := hid hcB
      rw [hb1, hb2] at HST; rw [hb1] at HMA; rw [hb2] at HMB
      have HSZ := hid HK8.out.size
      clear hcA hcB hb1 hb2
      have c0 : w8.cell? ⟨xb, 0, none⟩ = some (.int .i64 ai) := cell_of HC8.out (by rfl)
      have c1 : w8.cell? ⟨xb, 1, none⟩ = some (.string an) := cell_of HC8.out (by rfl)
      have c2 : w8.cell? ⟨xb, 2, none⟩ = some (.slice q1 fs.length y1) := cell_of HC8.out (by rfl)
      have e0 : w8.cell? ⟨yb, 0, none⟩ = some (.int .i64 bi) := cell_of HE8.out (by rfl)
      have e1 : w8.cell? ⟨yb, 1, none⟩ = some (.string bn) := cell_of HE8.out (by rfl)
      have e2 : w8.cell? ⟨yb, 2, none⟩ = some (.slice q7 gs.length y7) := cell_of HE8.out (by rfl)
      generalize ofN ca cb k = us at *
      have HLA : Hid (fs.length ≤ 65536) := hid HFA.out
      have HLB : Hid (gs.length ≤ 65536) := hid HFB.out
      clear HFA HFB
      cases b1 <;> cases b2
      · have G : Hid (ofN ca cb (k + 1) = us) := hid (by rw [HNX.out, HST.out, if_neg (by simp), if_neg (by simp), List.append_nil])
        go_wp2
        go_roundw
        case rel => exact ⟨k + 1, by omega, by go_num, by rw [G.out]; exact HO8.out, HK8.out⟩
        case measure => simp [intOf]; omega
      · have G : Hid (ofN ca cb (k + 1) = us ++ [⟨1, (k : Int) + 1, noN⟩]) := hid (by rw [HNX.out, HST.out, if_neg (by simp), if_pos rfl])
        go_wp2_with (at_builtin; go_loud (refine wpList_append_rd rfl (.tmp 54) (.tmp 57) _ rfl w3.heap.size _ i0 _ 3 32 Tryd.underlying28 hi0 hz0 hz1 hz2 rfl (by decide) _ us.length _ (by rfl) (HO8.out.alloc _) _ 1 _ (by rfl) (rd_block (heap_alloc_new w8 _) (by simp) (by simp [Value.oneCell'])) (by unfold maxLen; have := HLE.out; omega) (by have := HLE.out; omega) (by have := HSZ.out; simp; omega) ?_); go_loud (intro v' w6 hown6 hgrow6 hat6 hn6; obtain ⟨vq, vd, rfl⟩ := owns_val hown6; have HO6 := hid hown6; have HK6 := hid ((HK8.out.alloc _).grown hgrow6 (fun k hk => .inl (HO8.out.lt k hk).1)); clear hown6 hgrow6 hat6 hn6))
        go_wp2
        go_roundw
        case rel => exact ⟨k + 1, by omega, by go_num, by rw [G.out]; have h := HO6.out; simpa [ccl3, noN] using h, HK6.out⟩
        case measure => simp [intOf]; omega
      · have G : Hid (ofN ca cb (k + 1) = us ++ [⟨2, (k : Int) + 1, noN⟩]) := hid (by rw [HNX.out, HST.out, if_pos rfl, if_neg (by simp)])
        go_wp2_with (at_builtin; go_loud (refine wpList_append_rd rfl (.tmp 47) (.tmp 50) _ rfl w3.heap.size _ i0 _ 3 32 Tryd.underlying28 hi0 hz0 hz1 hz2 rfl (by decide) _ us.length _ (by rfl) (HO8.out.alloc _) _ 1 _ (by rfl) (rd_block (heap_alloc_new w8 _) (by simp) (by simp [Value.oneCell'])) (by unfold maxLen; have := HLE.out; omega) (by have := HLE.out; omega) (by have := HSZ.out; simp; omega) ?_); go_loud (intro v' w6 hown6 hgrow6 hat6 hn6; obtain ⟨vq, vd, rfl⟩ := owns_val hown6; have HO6 := hid hown6; have HK6 := hid ((HK8.out.alloc _).grown hgrow6 (fun k hk => .inl (HO8.out.lt k hk).1)); clear hown6 hgrow6 hat6 hn6))
        go_wp2
        go_roundw
        case rel => exact ⟨k + 1, by omega, by go_num, by rw [G.out]; have h := HO6.out; simpa [ccl3, noN] using h, HK6.out⟩
        case measure => simp [intOf]; omega
      · have G : Hid (ofN ca cb (k + 1) = us ++ compL ⟨ai, an, fs⟩ ⟨bi, bn, gs⟩) := hid (by rw [HNX.out, HST.out, if_pos rfl, if_pos rfl])
        have HID : Hid (ai = bi) := hid ((HMA.out rfl).trans (HMB.out rfl).symm)
        go_wp2_with fail
        refine (dif_comp ⟨ai, an, fs⟩ ⟨bi, bn, gs⟩ q1 y1 q7 y7 _ HLA.out HLB.out HID.out HFA8.out HFB8.out).mono ?_
        rintro r x9 ⟨v9, rfl, ho9, hk9⟩
        obtain ⟨np, nc, rfl⟩ := owns_val ho9
        have HX9 := hid (HK8.out.trans hk9)
        have HO9 := hid (owns_keep HO8.out (fun q hq => hk9.block q (HO8.out.lt q hq).2 id))
        have HN9 := hid ho9
        clear ho9 hk9 c0 c1 c2 e0 e1 e2
        generalize compL ⟨ai, an, fs⟩ ⟨bi, bn, gs⟩ = cl at *
        go_wp2_with (at_builtin; go_loud (refine wpList_append_rd rfl (.tmp 40) (.tmp 43) _ rfl w3.heap.size _ i0 _ 3 32 Tryd.underlying28 hi0 hz0 hz1 hz2 rfl (by decide) _ us.length _ (by rfl) HO9.out _ cl.length _ (by rfl) (rd_own HN9.out (chg_one _)) (by unfold maxLen; have := HLE.out; have := HCM.out; omega) (by have := HLE.out; have := HCM.out; omega) HX9.out.size ?_); go_loud (intro v' w6 hown6 hgrow6 hat6 hn6; obtain ⟨vq, vd, rfl⟩ := owns_val hown6; have HO6 := hid hown6; have HK6 := hid (HX9.out.grown hgrow6 (fun k hk => .inl (HO9.out.lt k hk).1)); clear hown6 hgrow6 hat6 hn6))
        go_wp2
        go_roundw
        case rel => exact ⟨k + 1, by omega, by go_num, by rw [G.out, List.flatMap_append, List.length_append]; exact HO6.out, HK6.out⟩
        case measure => simp [intOf]; omega
    · obtain rfl : k = 24 := by omega
      go_wp2
      (try simp only [Exit.inBlock, Exit.then])
      refine bodyPost_ret (results_tt rfl _) rfl ?_
      rw [show ofE va ca vb cb = ofL ca cb from if_pos HE.out, HE.out]
      exact ⟨_, rfl, owns_mono HO.out (by have := HS3.out; omega), HK.out.trans HKR.out⟩
end Go.Proofs.YtdekdefjfaoclaaDoor
