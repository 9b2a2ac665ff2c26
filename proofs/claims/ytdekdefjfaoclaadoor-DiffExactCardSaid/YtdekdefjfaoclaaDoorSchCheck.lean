/- What is proved: what the schema's Check answers. -/
import Derived.Test.YtdekdefjfaoclaaDoorSchFields
import Derived.Test.YtdekdefjfaoclaaDoorRegion
import Derived.Deep.Cut
import Derived.Deep.CutRange
import Derived.Deep.CutBlock
namespace Go.Proofs.YtdekdefjfaoclaaDoor
open Go.RowKit Go.Proofs.Heap Go.Proofs.Sch Go.Proofs.TMap

/-- The error of the components that are left. -/
def compsC : Int → List ByteArray → List Cmp → Nat
  | _, _, [] => 0
  | last, seen, c :: r => if c.id ≤ last ∨ 24 < c.id then 1 else if nameB c.name = false ∨ memB c.name seen = true then 4 else if fieldsC c.fs = 0 then compsC c.id (seen ++ [c.name]) r else fieldsC c.fs
/-- The error of a schema. -/
def checkC (v : Int) (cs : List Cmp) : Nat := if v < 1 ∨ 1073741824 < v then 1 else compsC 0 [] cs

/-- A schema of no great size. -/
def Small (cs : List Cmp) : Prop := cs.length ≤ 2932031007402 ∧ ∀ c ∈ cs, c.fs.length ≤ 4398046511104

set_option maxRecDepth 20000 in
set_option maxHeartbeats 4000000 in
theorem sch_check (v : Int) (cs : List Cmp) (p : Option Addr) (cap : Nat) (w : World) (hl : Small cs) (hf : CP w w.heap.size p cs) :
    Calls Tryd.prog 31 #[.agg #[.int .i64 v, .slice p cs.length cap]] w fun r w' => r = .returned (iV (checkC v cs)) ∧ Keep (fun _ => False) w w' := by
  have hl1 := hl.1
  have HL := hid hl.2
  have hb0 := heap_alloc_new w (.cells #[.int .i64 v, .slice p cs.length cap] 24)
  have hk0 := (Keep.refl (fun _ => False) w).alloc (.cells #[.int .i64 v, .slice p cs.length cap] 24)
  have hf1 := CP.low hf (Low.of_keep hk0 (Nat.le_refl _) (fun _ h => h.elim))
  have HF := hid (CP.mono hf1 hk0.size)
  have HB0 := hid hb0; have HK0 := hid hk0
  have hmm := @run_makeMap Tryd.prog
  clear hl hf hf1 hb0 hk0
  go_enter Tryd.func31, Tryd.ntmps31
  go_upto_region 1 with fail
  generalize w.alloc (.cells #[.int .i64 v, .slice p cs.length cap] 24) = w0 at *
  have hw0 := lt_of_heap HB0.out
  generalize w.heap.size = sb at *
  have hc0 : w0.cell? ⟨sb, 0, none⟩ = some (.int .i64 v) := cell_of HB0.out (by rfl)
  have hc1 : w0.cell? ⟨sb, 1, none⟩ = some (.slice p cs.length cap) := cell_of HB0.out (by rfl)
  by_cases h1 : v < 1
  · have g1 : decide (v < 1) = true := decide_eq_true h1
    have G3 : Hid (checkC v cs = 1) := hid (by unfold checkC; rw [if_pos (.inl h1)])
    clear h1
    go_wp2
    go_ret
    exact ⟨by rw [G3.out]; rfl, HK0.out⟩
  have g1 : decide (v < 1) = false := decide_eq_false h1
  by_cases h2 : 1073741824 < v
  · have g2 : decide (1073741824 < v) = true := decide_eq_true h2
    have G3 : Hid (checkC v cs = 1) := hid (by unfold checkC; rw [if_pos (.inr h2)])
    clear h1 h2
    go_wp2
    go_ret
    exact ⟨by rw [G3.out]; rfl, HK0.out⟩
  have g2 : decide (1073741824 < v) = false := decide_eq_false h2
  have HCC : Hid (checkC v cs = compsC 0 [] cs) := hid (by unfold checkC; rw [if_neg (by omega)])
  have HM0 : Hid (TS (w0.alloc (.map #[] 0)) w0.heap.size 0 (seenF [])) := hid (TM.made w0)
  have HK1 := hid ((Keep.refl (fun _ => False) w0).alloc (.map #[] 0))
  have hc1' : (w0.alloc (.map #[] 0)).cell? ⟨sb, 1, none⟩ = some (.slice p cs.length cap) := by rw [World.cell?_of_block (a := ⟨sb, 1, none⟩) (HK1.out.block sb hw0 id)]; exact hc1
  clear h1 h2
  go_wp2_with fail
  clear hmm g1 g2 hc0 hc1 hc1'
  go_loopw [4, 6, 7, 20] (fun la _ _ i wr => ∃ (k : Nat) (last : Int), k ≤ cs.length ∧ i = iV k ∧ la = .int .i64 last ∧ Keep (fun _ => False) w0 wr ∧ TS wr w0.heap.size k (seenF ((cs.take k).map (·.name))) ∧ compsC 0 [] cs = compsC last ((cs.take k).map (·.name)) (cs.drop k)) (fun _ _ _ i _ => cs.length + 1 - (intOf i).toNat)
  case atStart => exact ⟨0, 0, by omega, rfl, rfl, HK1.out, HM0.out, rfl⟩
  case round =>
    clear HM0 HK1
    obtain ⟨k, last, hk, rfl, rfl, hkeep, hm, hbad⟩ := hrel
    have HK := hid hkeep; have HM := hid hm; have HB := hid hbad
    clear hkeep hm hbad
    by_cases hlt : k < cs.length
    · obtain ⟨c, hck⟩ : ∃ c, cs[k]? = some c := ⟨cs[k], by simp [hlt]⟩
      have hfp := CP.low HF.out (Low.of_keep HK.out (Nat.le_refl _) (fun _ h => h.elim))
      obtain ⟨b, off, fq, fk, rfl, hb, c0, c1, c2, _, hff⟩ := CP.at hfp hck
      have hin : (0 : Int) ≤ (k : Int) ∧ (k : Int) < (cs.length : Int) := ⟨by omega, by omega⟩
      have htk : (cs.take (k + 1)).map (·.name) = (cs.take k).map (·.name) ++ [c.name] := by rw [take_next hck, List.map_append]; rfl
      have hbd : checkC v cs = (if c.id ≤ last ∨ 24 < c.id then 1 else if nameB c.name = false ∨ memB c.name ((cs.take k).map (·.name)) = true then 4 else if fieldsC c.fs = 0 then compsC c.id ((cs.take (k + 1)).map (·.name)) (cs.drop (k + 1)) else fieldsC c.fs) := by
        rw [HCC.out, HB.out, drop_next hck, htk]; rfl
      have hfl := HL.out c (List.mem_of_getElem? hck)
      have HTK := hid htk; have HBD := hid hbd; have HFF := hid hff
      clear hck hfp htk hbd hff
      generalize (cs.take k).map (·.name) = ns at *
      obtain ⟨id, nm, fs⟩ := c
      simp only at c0 c1 c2 hfl
      have hfb := heap_alloc_new wr (.cells #[.int .i64 id, .string nm, .slice fq fs.length fk] 46)
      have hkb := HK.out.alloc (.cells #[.int .i64 id, .string nm, .slice fq fs.length fk] 46)
      have hkb1 := (Keep.refl (fun _ => False) wr).alloc (.cells #[.int .i64 id, .string nm, .slice fq fs.length fk] 46)
      have hmb := HM.out.keep (hkb1.block w0.heap.size HM.out.lt (fun h => h))
      have hff := FP.low HFF.out (Low.of_keep hkb1 HK.out.size (fun _ h => h.elim))
      have hqs := HM.out.lt
      have HFB := hid hfb; have HKB := hid hkb; have HMB := hid hmb; have HFF2 := hid hff
      clear hfb hkb hmb HK HM hkb1 hff HFF
      go_upto_region 8 with fail
      generalize wr.alloc (.cells #[.int .i64 id, .string nm, .slice fq fs.length fk] 46) = wa at *
      generalize wr.heap.size = q at *
      have d0 : wa.cell? ⟨q, 0, none⟩ = some (.int .i64 id) := cell_of HFB.out (by rfl)
      have d1 : wa.cell? ⟨q, 1, none⟩ = some (.string nm) := cell_of HFB.out (by rfl)
      clear c0 c1 c2
      by_cases i1 : id ≤ last
      · have g1 : decide (id ≤ last) = true := decide_eq_true i1
        have G3 : Hid (checkC v cs = 1) := hid (by rw [HBD.out, if_pos (.inl i1)])
        clear HBD HTK i1
        go_wp2
        go_ret
        exact ⟨by rw [G3.out]; rfl, HK0.out.trans HKB.out⟩
      have g1 : decide (id ≤ last) = false := decide_eq_false i1
      by_cases i2 : 24 < id
      · have g2 : decide (24 < id) = true := decide_eq_true i2
        have G3 : Hid (checkC v cs = 1) := hid (by rw [HBD.out, if_pos (.inr i2)])
        clear HBD HTK i1 i2
        go_wp2
        go_ret
        exact ⟨by rw [G3.out]; rfl, HK0.out.trans HKB.out⟩
      have g2 : decide (24 < id) = false := decide_eq_false i2
      have HB3 : Hid (checkC v cs = (if nameB nm = false ∨ memB nm ns = true then 4 else if fieldsC fs = 0 then compsC id ((cs.take (k + 1)).map (·.name)) (cs.drop (k + 1)) else fieldsC fs)) := hid (by rw [HBD.out]; exact if_neg (fun h => h.elim i1 i2))
      clear HBD i1 i2
      go_wp2_with fail
      refine (is_name nm _).mono ?_
      rintro r w' ⟨rfl, rfl⟩
      clear g1 g2
      cases hn : nameB nm
      · have G3 : Hid (checkC v cs = 4) := hid (by rw [HB3.out, if_pos (.inl hn)])
        clear HB3 HTK hn
        go_wp2
        go_ret
        exact ⟨by rw [G3.out]; rfl, HK0.out.trans HKB.out⟩
      have hlk := HMB.out.look (t := 82) Tryd.underlying9 Tryd.underlying82 Tryd.underlying4 (zero_bool _) nm (by have := nameB_size hn; unfold maxLen; omega)
      rw [seenF_mem] at hlk
      cases hs : memB nm ns
      rotate_left
      · have G3 : Hid (checkC v cs = 4) := hid (by rw [HB3.out, if_pos (.inr hs)])
        rw [hs] at hlk
        clear HB3 HTK hn hs
        go_wp2
        go_ret
        exact ⟨by rw [G3.out]; rfl, HK0.out.trans HKB.out⟩
      rw [hs] at hlk
      have HN := hid hn
      have HB4 : Hid (checkC v cs = (if fieldsC fs = 0 then compsC id ((cs.take (k + 1)).map (·.name)) (cs.drop (k + 1)) else fieldsC fs)) := hid (by rw [HB3.out, if_neg (by rw [hn, hs]; simp)])
      clear HB3 hn hs
      go_wp2_with fail
      have HMD : Hid (TS wa.drew w0.heap.size k (seenF ns)) := hid (HMB.out.keep rfl)
      have HFD : Hid (wa.drew.heap[q]? = some (.cells #[.int .i64 id, .string nm, .slice fq fs.length fk] 46 (0, 0))) := hid HFB.out
      have e0 : wa.drew.cell? ⟨q, 0, none⟩ = some (.int .i64 id) := cell_of HFD.out (by rfl)
      have e1 : wa.drew.cell? ⟨q, 1, none⟩ = some (.string nm) := cell_of HFD.out (by rfl)
      clear hlk d0 d1
      refine Plan.wp_region_pl [(false, 0, []), (false, 1, []), (false, 2, []), (false, 3, []), (false, 4, []), (true, 5, [4, 3]), (false, 6, [])] (by kernel_rfl) (by kernel_rfl) ?_
      repeat (refine Plan.pl_st rfl ?_; go_big_quiet_step (fail); refine wpQuiet_nil ?_)
      refine Plan.pl_ac rfl ?_
      have HQ3 : Hid (q ≠ w0.heap.size) := hid (by omega)
      go_wp2_with (at_mapUpdate; go_loud (refine wpList_tm_put rfl _ _ _ _ rfl Tryd.underlying9 Tryd.underlying82 Tryd.underlying4 HMD.out (by unfold maxLen; omega) (by rfl) nm (by have := nameB_size HN.out; unfold maxLen; omega) (by rfl) (by rfl) ?_; intro w5 hm5 hg5; rw [seenF_put, ← HTK.out] at hm5; have HM5 := hid hm5; have hk5 : Keep (fun k => some w0.heap.size = some k) wa.drew w5 := (Keep.refl _ wa.drew).grown hg5 (fun k hk => .inr hk); have HK5 := hid (keep_new HKB.out.drew hk5 (fun k e => Nat.le_of_eq (Option.some.inj e))); have HC5 : Hid (w5.heap[q]? = some (.cells #[.int .i64 id, .string nm, .slice fq fs.length fk] 46 (0, 0))) := hid (hk5.get HFD.out (fun e => HQ3.out (Option.some.inj e).symm)); have j0 : w5.cell? ⟨q, 0, none⟩ = some (.int .i64 id) := cell_of HC5.out (by rfl); have j2 : w5.cell? ⟨q, 2, none⟩ = some (.slice fq fs.length fk) := cell_of HC5.out (by rfl); have HF5 := hid (FP.low (FP.low (w' := wa.drew) HFF2.out (fun _ _ => rfl)) (Low.of_keep hk5 HKB.out.size (fun k e => Nat.le_of_eq (Option.some.inj e)))); clear hm5 hg5 hk5))
      refine Plan.plQ_mk ?_ ?_
      · repeat (refine Plan.chk_st rfl ?_ ?_; focus (go_big_quiet_step (fail); exact wpQuiet_nil rfl))
        exact Plan.chk_end
      repeat (refine Plan.pl_st rfl ?_; go_big_quiet_step (fail); refine wpQuiet_nil ?_)
      refine Plan.pl_end ?_
      have HSF := hid (sch_fields fs fq fk w5 hfl (FP.mono HF5.out (by have := HK5.out.size; omega)))
      go_wp2_with fail
      refine HSF.out.mono ?_
      rintro r w6 ⟨rfl, hk6⟩
      have HK6 := hid (HK5.out.trans hk6)
      have HM6 := hid (HM5.out.keep (hk6.block _ HM5.out.lt (fun h => h)))
      clear hk6 HSF
      generalize hz : fieldsC fs = z at *
      by_cases h0 : z = 0
      · have g1 : ((z : Int) == 0) = true := beq_iff_eq.2 (by omega)
        have g2 : (z == 0) = true := beq_iff_eq.2 h0
        have g3 : ((z : Int) != 0) = false := by rw [bne, g1]; rfl
        have g4 : (z != 0) = false := by rw [bne, g2]; rfl
        have HB5 : Hid (compsC 0 [] cs = compsC id ((cs.take (k + 1)).map (·.name)) (cs.drop (k + 1))) := hid (by rw [← HCC.out, HB4.out, if_pos h0])
        clear HB4 hz h0
        go_wp2
        go_roundw
        case rel => exact ⟨k + 1, id, by omega, by go_num, rfl, HK6.out, HM6.out, HB5.out⟩
        case measure => simp [intOf]; omega
      · have g1 : ((z : Int) == 0) = false := beq_eq_false_iff_ne.2 (by omega)
        have g2 : (z == 0) = false := beq_eq_false_iff_ne.2 h0
        have g3 : ((z : Int) != 0) = true := by rw [bne, g1]; rfl
        have g4 : (z != 0) = true := by rw [bne, g2]; rfl
        have G3 : Hid (checkC v cs = z) := hid (by rw [HB4.out, if_neg h0])
        clear HB4 hz h0
        go_wp2
        go_ret
        exact ⟨by rw [G3.out]; rfl, HK0.out.trans HK6.out⟩
    · obtain rfl : k = cs.length := by omega
      have G3 : Hid (checkC v cs = 0) := hid (by rw [HCC.out, HB.out, List.drop_length]; rfl)
      clear HB
      go_wp2
      go_ret
      exact ⟨by rw [G3.out]; rfl, HK0.out.trans HK.out⟩

end Go.Proofs.YtdekdefjfaoclaaDoor
