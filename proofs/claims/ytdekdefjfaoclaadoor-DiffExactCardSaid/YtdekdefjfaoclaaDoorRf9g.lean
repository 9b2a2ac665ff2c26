/- What is proved: what Of of the diff's reference answers, of schemas that can be. -/
import Derived.Test.YtdekdefjfaoclaaDoorRf9d
import Derived.Test.YtdekdefjfaoclaaDoorRf9e
import Derived.Test.YtdekdefjfaoclaaDoorRf9f
import Derived.Test.YtdekdefjfaoclaaDoorDifKeptLaw
import Derived.Test.YtdekdefjfaoclaaDoorSchExactLaw
namespace Go.Proofs.YtdekdefjfaoclaaDoor
open Go.RowKit Go.Proofs.Heap Go.Proofs.Sch

/-- The changes of one kind. -/
def kindL (a b : Cmp) : Nat → List Chg
  | 0 => renL a b
  | 1 => missL a.fs b.fs 4 a.id
  | 2 => missL b.fs a.fs 5 a.id
  | 3 => retyL a.fs b.fs a.id
  | _ => movL a b
def kindsN (a b : Cmp) : Nat → List Chg
  | 0 => []
  | n + 1 => kindsN a b n ++ kindL a b n
theorem kinds_comp {a b : Cmp} (ha : NamesOk a.fs) (hb : NamesOk b.fs) (he : a.id = b.id) : kindsN a b 5 = compL a b := by
  have hm : movL a b = if comL a.fs b.fs = comL b.fs a.fs then [] else [⟨7, a.id, noN⟩] := by
    unfold movL
    rw [mv_same ha hb]
    by_cases e : comL a.fs b.fs = comL b.fs a.fs
    · rw [decide_eq_true e, if_pos e]; rfl
    · rw [decide_eq_false e, if_neg e]; rfl
  show (((([] ++ renL a b) ++ missL a.fs b.fs 4 a.id) ++ missL b.fs a.fs 5 a.id) ++ retyL a.fs b.fs a.id) ++ movL a b = _
  rw [hm, List.nil_append, he]
  unfold compL renL
  rw [he]
theorem kindL_le (a b : Cmp) (h1 : a.fs.length ≤ 65536) (h2 : b.fs.length ≤ 65536) (k : Nat) : (kindL a b k).length ≤ 65536 := by
  match k with
  | 0 => show (renL a b).length ≤ _; unfold renL; split <;> simp
  | 1 => have := missL_len a.fs b.fs 4 a.id; show (missL a.fs b.fs 4 a.id).length ≤ _; omega
  | 2 => have := missL_len b.fs a.fs 5 a.id; show (missL b.fs a.fs 5 a.id).length ≤ _; omega
  | 3 => have := retyL_len a.fs b.fs a.id; show (retyL a.fs b.fs a.id).length ≤ _; omega
  | _ + 4 => show (movL a b).length ≤ _; unfold movL; split <;> simp
theorem kindsN_le (a b : Cmp) (h1 : a.fs.length ≤ 65536) (h2 : b.fs.length ≤ 65536) : ∀ n, (kindsN a b n).length ≤ n * 65536
  | 0 => by simp [kindsN]
  | n + 1 => by
    have := kindsN_le a b h1 h2 n
    have := kindL_le a b h1 h2 n
    unfold kindsN
    rw [List.length_append]
    omega
theorem rf_comp (k : Nat) (hk : k < 5) (a b : Cmp) (p : Option Addr) (cap : Nat) (p2 : Option Addr) (cap2 : Nat) (w : World) (hl : a.fs.length ≤ 65536) (hl2 : b.fs.length ≤ 65536) (hf : FP w w.heap.size p a.fs) (hf2 : FP w w.heap.size p2 b.fs) :
    Calls Tryd.prog 24 #[.agg #[.int .i64 a.id, .string a.name, .slice p a.fs.length cap], .agg #[.int .i64 b.id, .string b.name, .slice p2 b.fs.length cap2], .int .i64 ((k : Int) + 3)] w fun r w' => ∃ v, r = .returned v ∧
      w'.ownsRow w.heap.size 41 3 v (kindL a b k).length ((kindL a b k).flatMap ccl3) ∧ Keep (fun _ => False) w w' := by
  match k, hk with
  | 0, _ => exact rf_comp3 a b p cap p2 cap2 w hl hl2 hf hf2
  | 1, _ => exact rf_comp4 a b p cap p2 cap2 w hl hl2 hf hf2
  | 2, _ => exact rf_comp5 a b p cap p2 cap2 w hl hl2 hf hf2
  | 3, _ => exact rf_comp6 a b p cap p2 cap2 w hl hl2 hf hf2
  | 4, _ => exact rf_comp7 a b p cap p2 cap2 w hl hl2 hf hf2

/-- A search for an id: nothing, or where it is. -/
theorem find_in {cs : List Cmp} (id : Int) : (idxI (fun c : Cmp => decide (c.id = id)) cs = -1 ∧ inC cs id = false) ∨ ∃ (n : Nat) (c : Cmp), idxI (fun c : Cmp => decide (c.id = id)) cs = (n : Int) ∧ cs[n]? = some c ∧ n < cs.length ∧ inC cs id = true ∧ foundC cs id = c := by
  rcases idx_cases (fun c : Cmp => decide (c.id = id)) cs with h | ⟨n, c, h1, h2, h3, h4⟩
  · exact .inl ⟨h, idx_any_no _ _ h⟩
  · refine .inr ⟨n, c, h1, h2, h4, in_mem.2 ⟨c, List.mem_of_getElem? h2, of_decide_eq_true h3⟩, ?_⟩
    unfold foundC
    rw [h1, if_neg (by omega), Int.toNat_natCast, h2]; rfl

set_option maxRecDepth 20000 in
set_option maxHeartbeats 16000000 in
theorem rf_of (va : Int) (ca : List Cmp) (p : Option Addr) (z : Nat) (vb : Int) (cb : List Cmp) (p2 : Option Addr) (z2 : Nat) (w : World) (ha : Mid ca) (hb : Mid cb) (ga : GoodS va ca) (gb : GoodS vb cb) (hca : CP w w.heap.size p ca) (hcb : CP w w.heap.size p2 cb) :
    Calls Tryd.prog 13 #[.agg #[.int .i64 va, .slice p ca.length z], .agg #[.int .i64 vb, .slice p2 cb.length z2]] w fun r w' => ∃ v, r = .returned v ∧
      w'.ownsRow w.heap.size 41 3 v (ofL ca cb).length ((ofL ca cb).flatMap ccl3) ∧ Keep (fun _ => False) w w' := by
  obtain ⟨i0, hi0, hz0, hz1, hz2⟩ := info_parts' info_chg2
  obtain ⟨w2, hw2, hb1, hb2, hs2, hk2⟩ := box2 w #[.int .i64 va, .slice p ca.length z] #[.int .i64 vb, .slice p2 cb.length z2] 24 24
  obtain ⟨w3, hw3, _, hs3, hk3⟩ := box1 w2 #[] 41
  have HO0 : Hid (w3.ownsRow w2.heap.size 41 3 (.slice (some ⟨w2.heap.size, 0, none⟩) 0 0) 0 []) := hid (hw3 ▸ World.ownsRow_made w2 #[] 0 (Nat.le_refl _) (by unfold maxLen; omega) (by simp))
  have HK := hid hk2
  have HK3 := hid hk3
  have HD : Hid (∀ wy, Keep (fun _ => False) w2 wy → CP wy wy.heap.size p ca ∧ CP wy wy.heap.size p2 cb) := hid (fun wy hk =>
    ⟨CP.mono (CP.low hca (Low.keep0 (hk2.trans hk))) (hk2.trans hk).size, CP.mono (CP.low hcb (Low.keep0 (hk2.trans hk))) (hk2.trans hk).size⟩)
  have HA := hid ha; have HB := hid hb
  have HGA := hid ga; have HGB := hid gb
  have HSS := hid hs2
  clear hca hcb hk2 hk3 hs2 hs3 ha hb ga gb
  go_enter Tryd.func13, Tryd.ntmps13
  go_upto_region 2 with fail
  rw [← hw2]
  clear hw2
  rw [← hw3]
  clear hw3
  generalize hsb : w.heap.size = sb at *
  have HOB : Hid (w2.heap.size = sb + 1 + 1) := hid (by have := HSS.out; omega)
  rw [HOB.out] at HO0
  have HW : Hid (∀ wy, Keep (fun _ => False) w2 wy → (wy.cell? ⟨sb, 0, none⟩ = some (.int .i64 va) ∧ wy.cell? ⟨sb, 1, none⟩ = some (.slice p ca.length z)) ∧ (wy.cell? ⟨sb + 1, 0, none⟩ = some (.int .i64 vb) ∧ wy.cell? ⟨sb + 1, 1, none⟩ = some (.slice p2 cb.length z2))) := hid (fun wy hk =>
    ⟨⟨cell_of (hk.get hb1 id) (by rfl), cell_of (hk.get hb1 id) (by rfl)⟩, cell_of (hk.get hb2 id) (by rfl), cell_of (hk.get hb2 id) (by rfl)⟩)
  clear hb1 hb2
  go_wp2_with fail
  go_loopw [5, 6, 7, 8, 9] (fun v i _ _ _ wr => ∃ k : Nat, k ≤ 24 ∧ i = .int .i64 ((k : Int) + 1) ∧ wr.ownsRow (sb + 1 + 1) 41 3 v (ofN ca cb k).length ((ofN ca cb k).flatMap ccl3) ∧ Keep (fun _ => False) w2 wr) (fun _ i _ _ _ _ => 26 - (intOf i).toNat)
  case atStart => exact ⟨0, Nat.zero_le _, rfl, HO0.out, HK3.out⟩
  case round =>
    generalize wr = wo at *
    obtain ⟨k, hk, rfl, how, hkr⟩ := hrel
    obtain ⟨vp, vc, rfl⟩ := owns_val how
    have HO := hid how; have HKR := hid hkr
    clear how hkr
    by_cases hlt : k < 24
    · have g0 : decide ((k : Int) + 1 ≤ 24) = true := decide_eq_true (by omega)
      have HLE := hid (ofN_le HA.out HB.out k)
      have HNX : Hid (ofN ca cb (k + 1) = ofN ca cb k ++ stepL ca cb ((k : Int) + 1)) := hid rfl
      have HST : Hid (stepL ca cb ((k : Int) + 1) = if inC ca ((k : Int) + 1) = true then (if inC cb ((k : Int) + 1) = true then compL (foundC ca ((k : Int) + 1)) (foundC cb ((k : Int) + 1)) else [⟨2, (k : Int) + 1, noN⟩]) else (if inC cb ((k : Int) + 1) = true then [⟨1, (k : Int) + 1, noN⟩] else [])) := hid rfl
      have HIA := hid (find_in (cs := ca) ((k : Int) + 1)); have HIB := hid (find_in (cs := cb) ((k : Int) + 1))
      obtain ⟨⟨s0, s1⟩, s2, s3⟩ := HW.out _ HKR.out
      go_wp2_with fail
      refine (r_find ((k : Int) + 1) va ca p z _ HA.out.small.1 (HD.out _ HKR.out).1).mono ?_
      rintro r x1 ⟨rfl, hk1⟩
      have HX1 := hid (HKR.out.trans hk1)
      have HO1 := hid (owns_keep HO.out (fun q hq => hk1.block q (HO.out.lt q hq).2 id))
      clear s0 s1 s2 s3 hk1
      obtain ⟨⟨s0, s1⟩, s2, s3⟩ := HW.out _ HX1.out
      go_wp2_with fail
      refine (r_find ((k : Int) + 1) vb cb p2 z2 _ HB.out.small.1 (HD.out _ HX1.out).2).mono ?_
      rintro r x2 ⟨rfl, hk2⟩
      have HX2 := hid (HX1.out.trans hk2)
      have HO2 := hid (owns_keep HO1.out (fun q hq => hk2.block q (HO1.out.lt q hq).2 id))
      have HSZ := hid HX2.out.size
      clear s0 s1 s2 s3 hk2
      rcases HIA.out with ⟨ea, ia⟩ | ⟨na, a, ea, hna, hla, ia, fa⟩
      · rcases HIB.out with ⟨eb, ib⟩ | ⟨nb, b, eb, hnb, hlb, ib, fb⟩
        · have G : Hid (ofN ca cb (k + 1) = ofN ca cb k) := hid (by rw [HNX.out, HST.out, if_neg (by rw [ia]; simp), if_neg (by rw [ib]; simp), List.append_nil])
          rw [ea, eb]
          clear ea eb ia ib
          have g1 : decide ((-1 : Int) < 0) = true := by decide
          have g2 : decide ((0 : Int) ≤ -1) = false := by decide
          go_wp2
          go_roundw
          case rel => exact ⟨k + 1, by omega, by go_num, by rw [G.out]; exact HO2.out, HX2.out⟩
          case measure => simp [intOf]; omega
        · have G : Hid (ofN ca cb (k + 1) = ofN ca cb k ++ [⟨1, (k : Int) + 1, noN⟩]) := hid (by rw [HNX.out, HST.out, if_neg (by rw [ia]; simp), if_pos ib])
          rw [ea, eb]
          clear ea eb ia ib hnb fb
          have g1 : decide ((-1 : Int) < 0) = true := by decide
          have g2 : decide ((0 : Int) ≤ -1) = false := by decide
          have h1nb : decide (((nb : Nat) : Int) < 0) = false := decide_eq_false (by omega)
          have h2nb : decide ((0 : Int) ≤ ((nb : Nat) : Int)) = true := decide_eq_true (by omega)
          generalize ofN ca cb k = us at *
          go_wp2_with (at_builtin; go_loud (refine wpList_append_rd rfl (.tmp 27) (.tmp 30) _ rfl (sb + 1 + 1) _ i0 _ 3 32 Tryd.underlying37 hi0 hz0 hz1 hz2 rfl (by decide) _ us.length _ (by rfl) (HO2.out.alloc _) _ 1 _ (by rfl) (rd_block (heap_alloc_new x2 _) (by simp) (by simp [Value.oneCell'])) (by unfold maxLen; have := HLE.out; omega) (by have := HLE.out; omega) (by have := HSZ.out; have := HOB.out; simp; omega) ?_); go_loud (intro v' w6 hown6 hgrow6 hat6 hn6; obtain ⟨vq, vd, rfl⟩ := owns_val hown6; have HO6 := hid hown6; have HK6 := hid ((HX2.out.alloc _).grown hgrow6 (fun k hk => .inl (by have := (HO2.out.lt k hk).1; have := HOB.out; omega))); clear hown6 hgrow6 hat6 hn6))
          go_wp2
          go_roundw
          case rel => exact ⟨k + 1, by omega, by go_num, by rw [G.out]; have h := HO6.out; simpa [ccl3, noN] using h, HK6.out⟩
          case measure => simp [intOf]; omega
      · rcases HIB.out with ⟨eb, ib⟩ | ⟨nb, b, eb, hnb, hlb, ib, fb⟩
        · have G : Hid (ofN ca cb (k + 1) = ofN ca cb k ++ [⟨2, (k : Int) + 1, noN⟩]) := hid (by rw [HNX.out, HST.out, if_pos ia, if_neg (by rw [ib]; simp)])
          rw [ea, eb]
          clear ea eb ia ib hna fa
          have g1 : decide ((-1 : Int) < 0) = true := by decide
          have g2 : decide ((0 : Int) ≤ -1) = false := by decide
          have h1na : decide (((na : Nat) : Int) < 0) = false := decide_eq_false (by omega)
          have h2na : decide ((0 : Int) ≤ ((na : Nat) : Int)) = true := decide_eq_true (by omega)
          generalize ofN ca cb k = us at *
          go_wp2_with (at_builtin; go_loud (refine wpList_append_rd rfl (.tmp 38) (.tmp 41) _ rfl (sb + 1 + 1) _ i0 _ 3 32 Tryd.underlying37 hi0 hz0 hz1 hz2 rfl (by decide) _ us.length _ (by rfl) (HO2.out.alloc _) _ 1 _ (by rfl) (rd_block (heap_alloc_new x2 _) (by simp) (by simp [Value.oneCell'])) (by unfold maxLen; have := HLE.out; omega) (by have := HLE.out; omega) (by have := HSZ.out; have := HOB.out; simp; omega) ?_); go_loud (intro v' w6 hown6 hgrow6 hat6 hn6; obtain ⟨vq, vd, rfl⟩ := owns_val hown6; have HO6 := hid hown6; have HK6 := hid ((HX2.out.alloc _).grown hgrow6 (fun k hk => .inl (by have := (HO2.out.lt k hk).1; have := HOB.out; omega))); clear hown6 hgrow6 hat6 hn6))
          go_wp2
          go_roundw
          case rel => exact ⟨k + 1, by omega, by go_num, by rw [G.out]; have h := HO6.out; simpa [ccl3, noN] using h, HK6.out⟩
          case measure => simp [intOf]; omega
        · have hma := List.mem_of_getElem? hna
          have hmb := List.mem_of_getElem? hnb
          have hid2 : a.id = b.id := by rw [← fa, ← fb, (foundC_mem ia).2, (foundC_mem ib).2]
          have G : Hid (ofN ca cb (k + 1) = ofN ca cb k ++ kindsN a b 5) := hid (by rw [HNX.out, HST.out, if_pos ia, if_pos ib, fa, fb, kinds_comp (HGA.out.names hma) (HGB.out.names hmb) hid2])
          have hla2 := HA.out.2 a hma
          have hlb2 := HB.out.2 b hmb
          have HNA := hid hna; have HNB := hid hnb
          rw [ea, eb]
          clear ea eb ia ib fa fb hid2 hma hmb hna hnb
          have h1na : decide (((na : Nat) : Int) < 0) = false := decide_eq_false (by omega)
          have h2na : decide ((0 : Int) ≤ ((na : Nat) : Int)) = true := decide_eq_true (by omega)
          have h1nb : decide (((nb : Nat) : Int) < 0) = false := decide_eq_false (by omega)
          have h2nb : decide ((0 : Int) ≤ ((nb : Nat) : Int)) = true := decide_eq_true (by omega)
          generalize ofN ca cb k = us at *
          go_wp2_with fail
          go_loopw [5, 9] (fun v i wr => ∃ m : Nat, m ≤ 5 ∧ i = .int .i64 ((m : Int) + 3) ∧ wr.ownsRow (sb + 1 + 1) 41 3 v (us ++ kindsN a b m).length ((us ++ kindsN a b m).flatMap ccl3) ∧ Keep (fun _ => False) w2 wr) (fun _ i _ => 10 - (intOf i).toNat)
          case atStart => exact ⟨0, Nat.zero_le _, rfl, by rw [show us ++ kindsN a b 0 = us from List.append_nil _]; exact HO2.out, HX2.out⟩
          case round =>
            clear HO2 HX2
            obtain ⟨m, hm, rfl, how, hkr⟩ := hrel
            obtain ⟨vq, vd, rfl⟩ := owns_val how
            have HP := hid (owns_keep (w' := wr.drew) how (fun _ _ => rfl)); have HKP := hid hkr.drew
            have HP_ := hid how; have HKP_ := hid hkr
            clear how hkr
            by_cases hmt : m < 5
            · have g5 : decide ((m : Int) + 3 ≤ 7) = true := decide_eq_true (by omega)
              have HKN : Hid (kindsN a b (m + 1) = kindsN a b m ++ kindL a b m) := hid rfl
              have HK1 := hid (kindsN_le a b hla2 hlb2 m); have HK2 := hid (kindL_le a b hla2 hlb2 m)
              obtain ⟨ba, oa, qa, ka, rfl, hba, a0, a1, a2, _, hfa⟩ := CP.at (HD.out _ HKP.out).1 HNA.out
              obtain ⟨bb, ob, qb, kb, rfl, hbb, b0, b1, b2, _, hfb⟩ := CP.at (HD.out _ HKP.out).2 HNB.out
              obtain ⟨⟨s0, s1⟩, s2, s3⟩ := HW.out _ HKP.out
              have hin1 : (0 : Int) ≤ (na : Int) ∧ (na : Int) < (ca.length : Int) := ⟨by omega, by omega⟩
              have hin2 : (0 : Int) ≤ (nb : Int) ∧ (nb : Int) < (cb.length : Int) := ⟨by omega, by omega⟩
              have HFA := hid hfa; have HFB := hid hfb
              clear hba hbb hfa hfb
              go_upto_region 15 with fail
              refine Plan.wp_region_pl [(false, 0, []), (false, 1, []), (false, 2, []), (false, 3, []), (false, 4, []), (false, 5, []), (false, 6, []), (false, 7, []), (false, 8, []), (false, 9, []), (false, 10, []), (false, 11, []), (true, 12, [0]), (true, 13, []), (true, 14, [])] (by kernel_rfl) (by kernel_rfl) ?_
              iterate 12 (refine Plan.pl_st rfl ?_; go_big_quiet_step (fail); refine wpQuiet_nil ?_)
              refine Plan.pl_ac rfl ?_
              go_wp2_with fail
              refine (rf_comp m hmt a b qa ka qb kb _ hla2 hlb2 HFA.out HFB.out).mono ?_
              rintro r w5 ⟨nv, rfl, ho5, hk5⟩
              obtain ⟨np, nc, rfl⟩ := owns_val ho5
              have HK5 := hid (HKP.out.trans hk5)
              have HP5 := hid (owns_keep HP.out (fun q hq => hk5.block q (HP.out.lt q hq).2 id))
              have HN5 := hid ho5
              clear hk5 ho5 s0 s1 s2 s3 a0 a1 a2 b0 b1 b2
              have HLU : Hid ((us ++ kindsN a b m).length ≤ 24 * 262144 + 5 * 65536) := hid (by have := HLE.out; have := HK1.out; rw [List.length_append]; omega)
              have HKN2 : Hid (us ++ kindsN a b (m + 1) = (us ++ kindsN a b m) ++ kindL a b m) := hid (by rw [HKN.out, List.append_assoc])
              generalize us ++ kindsN a b m = uk at *
              generalize kindL a b m = kl at *
              go_wp2
              refine Plan.plQ_mk ?_ ?_
              · iterate 1 (refine Plan.chk_st rfl ?_ ?_; focus (go_big_quiet_step (fail); exact wpQuiet_nil rfl))
                exact Plan.chk_end
              refine Plan.pl_ac rfl ?_
              refine wpList_append_rd rfl _ _ _ rfl (sb + 1 + 1) _ i0 _ 3 32 Tryd.underlying37 hi0 hz0 hz1 hz2 rfl (by decide) _ uk.length _ (by rfl) HP5.out _ kl.length _ (by rfl) (rd_own HN5.out (chg_one _)) (by unfold maxLen; have := HLU.out; have := HK2.out; omega) (by have := HLU.out; have := HK2.out; omega) (by have := HK5.out.size; have := HOB.out; omega) ?_
              intro v' w6 hown6 hgrow6 hat6 hn6
              obtain ⟨vq6, vd6, rfl⟩ := owns_val hown6
              have HO6 := hid hown6
              have HK6 := hid (HK5.out.grown hgrow6 (fun k hk => .inl (by have := (HP5.out.lt k hk).1; have := HOB.out; omega)))
              clear hown6 hgrow6 hat6 hn6
              go_wp2
              refine Plan.plQ_mk Plan.chk_end ?_
              refine Plan.pl_ac rfl ?_
              go_wp2
              refine Plan.plQ_mk Plan.chk_end ?_
              refine Plan.pl_end ?_
              go_wp2
              go_roundw
              case rel => exact ⟨m + 1, by omega, by go_num, by rw [HKN2.out, List.flatMap_append, List.length_append]; exact HO6.out, HK6.out⟩
              case measure => simp [intOf]; omega
            · obtain rfl : m = 5 := by omega
              go_wp2
              go_roundw
              case rel => exact ⟨k + 1, by omega, by go_num, by rw [G.out]; exact HP_.out, HKP_.out⟩
              case measure => simp [intOf]; omega
    · obtain rfl : k = 24 := by omega
      go_wp2
      go_ret
      exact ⟨_, rfl, owns_mono HO.out (show w.heap.size ≤ sb + 1 + 1 by omega), HK.out.trans HKR.out⟩
end Go.Proofs.YtdekdefjfaoclaaDoor
