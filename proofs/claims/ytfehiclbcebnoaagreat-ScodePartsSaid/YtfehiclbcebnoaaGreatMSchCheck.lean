/- What is proved: what the schema's Check answers. -/
import Derived.Test.YtfehiclbcebnoaaGreatMFput
import Derived.Test.YtfehiclbcebnoaaGreatMRegion
import Derived.Deep.Cut
import Derived.Deep.CutRange
import Derived.Deep.CutBlock
import Derived.Test.YtfehiclbcebnoaaGreatMBox
namespace Go.Proofs.YtfehiclbcebnoaaGreat
open Go.RowKit Go.Proofs.Heap Go.Proofs.Sch Go.Proofs.TMap

/-- The error of the components that are left. -/
def compsC : Int → List ByteArray → List Cmp → Nat
  | _, _, [] => 0
  | last, seen, c :: r => if c.id ≤ last ∨ 24 < c.id then 1 else if nameB c.name = false ∨ memB c.name seen = true then 4 else if fieldsC c.fs = 0 then compsC c.id (seen ++ [c.name]) r else fieldsC c.fs
/-- The error of a schema. -/
def checkC (v : Int) (cs : List Cmp) : Nat := if v < 1 ∨ 1073741824 < v then 1 else compsC 0 [] cs

/-- A schema of no great size. -/
def Small (cs : List Cmp) : Prop := cs.length ≤ 2932031007402 ∧ ∀ c ∈ cs, c.fs.length ≤ 4398046511104

set_option maxRecDepth 20000 in
set_option maxHeartbeats 4000000 in
theorem sch_check (v : Int) (cs : List Cmp) (p : Option Addr) (cap : Nat) (w : World) (hl : Small cs) (hf : CP w w.heap.size p cs) :
    Calls Tryz.prog 25 #[.agg #[.int .i64 v, .slice p cs.length cap]] w fun r w' => r = .returned (iV (checkC v cs)) ∧ Keep (fun _ => False) w w' := by
  have hl1 := hl.1
  have HL := hid hl.2
  have hb0 := heap_alloc_new w (.cells #[.int .i64 v, .slice p cs.length cap] 24)
  have hk0 := (Keep.refl (fun _ => False) w).alloc (.cells #[.int .i64 v, .slice p cs.length cap] 24)
  have hf1 := CP.low hf (Low.of_keep hk0 (Nat.le_refl _) (fun _ h => h.elim))
  have HF := hid (CP.mono hf1 hk0.size)
  have HB0 := hid hb0; have HK0 := hid hk0
  have hmm := @run_makeMap Tryz.prog
  clear hl hf hf1 hb0 hk0
  go_enter Tryz.func25, Tryz.ntmps25
  go_upto_region 1 with fail
  generalize w.alloc (.cells #[.int .i64 v, .slice p cs.length cap] 24) = w0 at *
  have hw0 := lt_of_heap HB0.out
  generalize w.heap.size = sb at *
  have hc0 : w0.cell? ⟨sb, 0, none⟩ = some (.int .i64 v) := cell_of HB0.out (by rfl)
  have hc1 : w0.cell? ⟨sb, 1, none⟩ = some (.slice p cs.length cap) := cell_of HB0.out (by rfl)
  by_cases h1 : v < 1
  · have g1 : decide (v < 1) = true := decide_eq_true h1
    have G3 : Hid (checkC v cs = 1) := hid (by unfold checkC; rw [if_pos (.inl h1)])
    clear h1
    go_wp2
    go_ret
    exact ⟨by rw [G3.out]; rfl, HK0.out⟩
  have g1 : decide (v < 1) = false := decide_eq_false h1
  by_cases h2 : 1073741824 < v
  · have g2 : decide (1073741824 < v) = true := decide_eq_true h2
    have G3 : Hid (checkC v cs = 1) := hid (by unfold checkC; rw [if_pos (.inr h2)])
    clear h1 h2
    go_wp2
    go_ret
    exact ⟨by rw [G3.out]; rfl, HK0.out⟩
  have g2 : decide (1073741824 < v) = false := decide_eq_false h2
  have HCC : Hid (checkC v cs = compsC 0 [] cs) := hid (by unfold checkC; rw [if_neg (by omega)])
  have HM0 : Hid (TS (w0.alloc (.map #[] 0)) w0.heap.size 0 (seenF [])) := hid (TM.made w0)
  have HK1 := hid ((Keep.refl (fun _ => False) w0).alloc (.map #[] 0))
  have hc1' : (w0.alloc (.map #[] 0)).cell? ⟨sb, 1, none⟩ = some (.slice p cs.length cap) := by rw [World.cell?_of_block (a := ⟨sb, 1, none⟩) (HK1.out.block sb hw0 id)]; exact hc1
  clear h1 h2
  go_wp2_with fail
  clear hmm g1 g2 hc0 hc1 hc1'
  go_loopw [4, 6, 7, 20] (fun la _ _ i wr => ∃ (k : Nat) (last : Int), k ≤ cs.length ∧ i = iV k ∧ la = .int .i64 last ∧ Keep (fun _ => False) w0 wr ∧ TS wr w0.heap.size k (seenF ((cs.take k).map (·.name))) ∧ compsC 0 [] cs = compsC last ((cs.take k).map (·.name)) (cs.drop k)) (fun _ _ _ i _ => cs.length + 1 - (intOf i).toNat)
  case atStart => exact ⟨0, 0, by omega, rfl, rfl, HK1.out, HM0.out, rfl⟩
  case round =>
    clear HM0 HK1
    obtain ⟨k, last, hk, rfl, rfl, hkeep, hm, hbad⟩ := hrel
    have HK := hid hkeep; have HM := hid hm; have HB := hid hbad
    clear hkeep hm hbad
    by_cases hlt : k < cs.length
    · obtain ⟨c, hck⟩ : ∃ c, cs[k]? = some c := ⟨cs[k], by simp [hlt]⟩
      have hfp := CP.low HF.out (Low.of_keep HK.out (Nat.le_refl _) (fun _ h => h.elim))
      obtain ⟨b, off, fq, fk, rfl, hb, c0, c1, c2, _, hff⟩ := CP.at hfp hck
      have hin : (0 : Int) ≤ (k : Int) ∧ (k : Int) < (cs.length : Int) := ⟨by omega, by omega⟩
      have htk : (cs.take (k + 1)).map (·.name) = (cs.take k).map (·.name) ++ [c.name] := by rw [take_next hck, List.map_append]; rfl
      have hbd : checkC v cs = (if c.id ≤ last ∨ 24 < c.id then 1 else if nameB c.name = false ∨ memB c.name ((cs.take k).map (·.name)) = true then 4 else if fieldsC c.fs = 0 then compsC c.id ((cs.take (k + 1)).map (·.name)) (cs.drop (k + 1)) else fieldsC c.fs) := by
        rw [HCC.out, HB.out, drop_next hck, htk]; rfl
      have hfl := HL.out c (List.mem_of_getElem? hck)
      have HTK := hid htk; have HBD := hid hbd; have HFF := hid hff
      clear hck hfp htk hbd hff
      generalize (cs.take k).map (·.name) = ns at *
      obtain ⟨id, nm, fs⟩ := c
      simp only at c0 c1 c2 hfl
      have hfb := heap_alloc_new wr (.cells #[.int .i64 id, .string nm, .slice fq fs.length fk] 48)
      have hkb := HK.out.alloc (.cells #[.int .i64 id, .string nm, .slice fq fs.length fk] 48)
      have hkb1 := (Keep.refl (fun _ => False) wr).alloc (.cells #[.int .i64 id, .string nm, .slice fq fs.length fk] 48)
      have hmb := HM.out.keep (hkb1.block w0.heap.size HM.out.lt (fun h => h))
      have hff := FP.low HFF.out (Low.of_keep hkb1 HK.out.size (fun _ h => h.elim))
      have hqs := HM.out.lt
      have HFB := hid hfb; have HKB := hid hkb; have HMB := hid hmb; have HFF2 := hid hff
      clear hfb hkb hmb HK HM hkb1 hff HFF
      go_upto_region 8 with fail
      generalize wr.alloc (.cells #[.int .i64 id, .string nm, .slice fq fs.length fk] 48) = wa at *
      generalize wr.heap.size = q at *
      have d0 : wa.cell? ⟨q, 0, none⟩ = some (.int .i64 id) := cell_of HFB.out (by rfl)
      have d1 : wa.cell? ⟨q, 1, none⟩ = some (.string nm) := cell_of HFB.out (by rfl)
      clear c0 c1 c2
      by_cases i1 : id ≤ last
      · have g1 : decide (id ≤ last) = true := decide_eq_true i1
        have G3 : Hid (checkC v cs = 1) := hid (by rw [HBD.out, if_pos (.inl i1)])
        clear HBD HTK i1
        go_wp2
        go_ret
        exact ⟨by rw [G3.out]; rfl, HK0.out.trans HKB.out⟩
      have g1 : decide (id ≤ last) = false := decide_eq_false i1
      by_cases i2 : 24 < id
      · have g2 : decide (24 < id) = true := decide_eq_true i2
        have G3 : Hid (checkC v cs = 1) := hid (by rw [HBD.out, if_pos (.inr i2)])
        clear HBD HTK i1 i2
        go_wp2
        go_ret
        exact ⟨by rw [G3.out]; rfl, HK0.out.trans HKB.out⟩
      have g2 : decide (24 < id) = false := decide_eq_false i2
      have HB3 : Hid (checkC v cs = (if nameB nm = false ∨ memB nm ns = true then 4 else if fieldsC fs = 0 then compsC id ((cs.take (k + 1)).map (·.name)) (cs.drop (k + 1)) else fieldsC fs)) := hid (by rw [HBD.out]; exact if_neg (fun h => h.elim i1 i2))
      clear HBD i1 i2
      go_wp2_with fail
      refine (is_name nm _).mono ?_
      rintro r w' ⟨rfl, rfl⟩
      clear g1 g2
      cases hn : nameB nm
      · have G3 : Hid (checkC v cs = 4) := hid (by rw [HB3.out, if_pos (.inl hn)])
        clear HB3 HTK hn
        go_wp2
        go_ret
        exact ⟨by rw [G3.out]; rfl, HK0.out.trans HKB.out⟩
      have hlk := HMB.out.look (t := 112) Tryz.underlying9 Tryz.underlying112 Tryz.underlying4 (zero_bool _) nm (by have := nameB_size hn; unfold maxLen; omega)
      rw [seenF_mem] at hlk
      cases hs : memB nm ns
      rotate_left
      · have G3 : Hid (checkC v cs = 4) := hid (by rw [HB3.out, if_pos (.inr hs)])
        rw [hs] at hlk
        clear HB3 HTK hn hs
        go_wp2
        go_ret
        exact ⟨by rw [G3.out]; rfl, HK0.out.trans HKB.out⟩
      rw [hs] at hlk
      have HN := hid hn
      have HB4 : Hid (checkC v cs = (if fieldsC fs = 0 then compsC id ((cs.take (k + 1)).map (·.name)) (cs.drop (k + 1)) else fieldsC fs)) := hid (by rw [HB3.out, if_neg (by rw [hn, hs]; simp)])
      clear HB3 hn hs
      go_wp2_with fail
      have HMD : Hid (TS wa.drew w0.heap.size k (seenF ns)) := hid (HMB.out.keep rfl)
      have HFD : Hid (wa.drew.heap[q]? = some (.cells #[.int .i64 id, .string nm, .slice fq fs.length fk] 48 (0, 0))) := hid HFB.out
      have e0 : wa.drew.cell? ⟨q, 0, none⟩ = some (.int .i64 id) := cell_of HFD.out (by rfl)
      have e1 : wa.drew.cell? ⟨q, 1, none⟩ = some (.string nm) := cell_of HFD.out (by rfl)
      clear hlk d0 d1
      refine Plan.wp_region_pl [(false, 0, []), (false, 1, []), (false, 2, []), (false, 3, []), (false, 4, []), (true, 5, [4, 3]), (false, 6, [])] (by kernel_rfl) (by kernel_rfl) ?_
      repeat (refine Plan.pl_st rfl ?_; go_big_quiet_step (fail); refine wpQuiet_nil ?_)
      refine Plan.pl_ac rfl ?_
      have HQ3 : Hid (q ≠ w0.heap.size) := hid (by omega)
      go_wp2_with (at_mapUpdate; go_loud (refine wpList_tm_put rfl _ _ _ _ rfl Tryz.underlying9 Tryz.underlying112 Tryz.underlying4 HMD.out (by unfold maxLen; omega) (by rfl) nm (by have := nameB_size HN.out; unfold maxLen; omega) (by rfl) (by rfl) ?_; intro w5 hm5 hg5; rw [seenF_put, ← HTK.out] at hm5; have HM5 := hid hm5; have hk5 : Keep (fun k => some w0.heap.size = some k) wa.drew w5 := (Keep.refl _ wa.drew).grown hg5 (fun k hk => .inr hk); have HK5 := hid (keep_new HKB.out.drew hk5 (fun k e => Nat.le_of_eq (Option.some.inj e))); have HC5 : Hid (w5.heap[q]? = some (.cells #[.int .i64 id, .string nm, .slice fq fs.length fk] 48 (0, 0))) := hid (hk5.get HFD.out (fun e => HQ3.out (Option.some.inj e).symm)); have j0 : w5.cell? ⟨q, 0, none⟩ = some (.int .i64 id) := cell_of HC5.out (by rfl); have j2 : w5.cell? ⟨q, 2, none⟩ = some (.slice fq fs.length fk) := cell_of HC5.out (by rfl); have HF5 := hid (FP.low (FP.low (w' := wa.drew) HFF2.out (fun _ _ => rfl)) (Low.of_keep hk5 HKB.out.size (fun k e => Nat.le_of_eq (Option.some.inj e)))); clear hm5 hg5 hk5))
      refine Plan.plQ_mk ?_ ?_
      · repeat (refine Plan.chk_st rfl ?_ ?_; focus (go_big_quiet_step (fail); exact wpQuiet_nil rfl))
        exact Plan.chk_end
      repeat (refine Plan.pl_st rfl ?_; go_big_quiet_step (fail); refine wpQuiet_nil ?_)
      refine Plan.pl_end ?_
      have HSF := hid (sch_fields fs fq fk w5 hfl (FP.mono HF5.out (by have := HK5.out.size; omega)))
      go_wp2_with fail
      refine HSF.out.mono ?_
      rintro r w6 ⟨rfl, hk6⟩
      have HK6 := hid (HK5.out.trans hk6)
      have HM6 := hid (HM5.out.keep (hk6.block _ HM5.out.lt (fun h => h)))
      clear hk6 HSF
      generalize hz : fieldsC fs = z at *
      by_cases h0 : z = 0
      · have g1 : ((z : Int) == 0) = true := beq_iff_eq.2 (by omega)
        have g2 : (z == 0) = true := beq_iff_eq.2 h0
        have g3 : ((z : Int) != 0) = false := by rw [bne, g1]; rfl
        have g4 : (z != 0) = false := by rw [bne, g2]; rfl
        have HB5 : Hid (compsC 0 [] cs = compsC id ((cs.take (k + 1)).map (·.name)) (cs.drop (k + 1))) := hid (by rw [← HCC.out, HB4.out, if_pos h0])
        clear HB4 hz h0
        go_wp2
        go_roundw
        case rel => exact ⟨k + 1, id, by omega, by go_num, rfl, HK6.out, HM6.out, HB5.out⟩
        case measure => simp [intOf]; omega
      · have g1 : ((z : Int) == 0) = false := beq_eq_false_iff_ne.2 (by omega)
        have g2 : (z == 0) = false := beq_eq_false_iff_ne.2 h0
        have g3 : ((z : Int) != 0) = true := by rw [bne, g1]; rfl
        have g4 : (z != 0) = true := by rw [bne, g2]; rfl
        have G3 : Hid (checkC v cs = z) := hid (by rw [HB4.out, if_neg h0])
        clear HB4 hz h0
        go_wp2
        go_ret
        exact ⟨by rw [G3.out]; rfl, HK0.out.trans HK6.out⟩
    · obtain rfl : k = cs.length := by omega
      have G3 : Hid (checkC v cs = 0) := hid (by rw [HCC.out, HB.out, List.drop_length]; rfl)
      clear HB
      go_wp2
      go_ret
      exact ⟨by rw [G3.out]; rfl, HK0.out.trans HK.out⟩

end Go.Proofs.YtfehiclbcebnoaaGreat

namespace Go.Proofs.YtfehiclbcebnoaaGreat
open Go.RowKit Go.Proofs.Heap Go.Proofs.Sch

/-- A field's bytes, a component's, a schema's. -/
def fldL (f : Fld) : List UInt8 := nameL f.name ++ leL 1 (u64N f.kind) ++ leL 1 (u64N f.count)
def cmpL (c : Cmp) : List UInt8 := leL 1 (u64N c.id) ++ nameL c.name ++ leL 1 c.fs.length ++ c.fs.flatMap fldL
def schL (v : Int) (cs : List Cmp) : List UInt8 := leL 1 83 ++ leL 4 (u64N v) ++ leL 1 cs.length ++ cs.flatMap cmpL
def encZ (v : Int) (cs : List Cmp) : ByteArray := if checkC v cs = 0 then ⟨(schL v cs).toArray⟩ else ⟨#[]⟩
theorem fld_names : ∀ (seen : List ByteArray) (fs : List Fld), fldBad seen fs = false → ∀ f ∈ fs, nameB f.name = true
  | _, [], _, f, hf => by cases hf
  | seen, g :: r, h, f, hf => by
    rw [fldBad] at h
    simp only [Bool.or_eq_false_iff, Bool.not_eq_false'] at h
    rcases List.mem_cons.1 hf with rfl | hf
    · exact h.1
    · exact fld_names _ r h.2.2 f hf
/-- Fields that can be. -/
theorem fields_ok {fs : List Fld} (h : fieldsC fs = 0) : fs.length ≤ 8 ∧ ∀ f ∈ fs, nameB f.name = true ∧ okF f := by
  unfold fieldsC at h
  cases hb : fldBad [] fs with
  | true => rw [hb, if_pos rfl] at h; omega
  | false =>
    rw [hb, if_neg (by decide)] at h
    unfold layC at h
    split at h
    · omega
    · split at h
      next h8 ho => exact ⟨by omega, fun f hf => ⟨fld_names [] fs hb f hf, ho f hf⟩⟩
      · omega
theorem comps_ok : ∀ (cs : List Cmp) (last : Int) (seen : List ByteArray), compsC last seen cs = 0 → 0 ≤ last → last ≤ 24 → (cs.length : Int) + last ≤ 24 ∧ ∀ c ∈ cs, (1 ≤ c.id ∧ c.id ≤ 24) ∧ nameB c.name = true ∧ fieldsC c.fs = 0
  | [], _, _, _, _, h24 => ⟨by simpa using h24, fun _ hc => by cases hc⟩
  | c :: r, last, seen, h, h0, _ => by
    rw [compsC] at h
    split at h
    · omega
    · split at h
      · omega
      · split at h
        next h1 h2 h3 =>
          have h4 : last < c.id ∧ c.id ≤ 24 := by omega
          obtain ⟨e1, e2⟩ := comps_ok r c.id _ h (by omega) h4.2
          refine ⟨by simp only [List.length_cons]; omega, fun d hd => ?_⟩
          rcases List.mem_cons.1 hd with rfl | hd
          · refine ⟨⟨by omega, h4.2⟩, ?_, h3⟩
            cases hn : nameB d.name with
            | true => rfl
            | false => exact absurd (.inl hn) h2
          · exact e2 d hd
        next h1 h2 h3 => exact absurd h h3
/-- A schema that can be. -/
theorem sch_ok {v : Int} {cs : List Cmp} (h : checkC v cs = 0) : (1 ≤ v ∧ v ≤ 1073741824) ∧ cs.length ≤ 24 ∧ ∀ c ∈ cs, (1 ≤ c.id ∧ c.id ≤ 24) ∧ nameB c.name = true ∧ c.fs.length ≤ 8 ∧ ∀ f ∈ c.fs, nameB f.name = true ∧ okF f := by
  unfold checkC at h
  split at h
  · omega
  · obtain ⟨h1, h2⟩ := comps_ok cs 0 [] h (by omega) (by omega)
    refine ⟨by omega, by omega, fun c hc => ?_⟩
    obtain ⟨a, b, d⟩ := h2 c hc
    exact ⟨a, b, fields_ok d⟩
theorem fldL_len {f : Fld} (h : nameB f.name = true) : (fldL f).length ≤ 15 := by
  unfold fldL
  rw [List.length_append, List.length_append, leL_len, leL_len, nameL_len]
  have := nameB_size h
  omega
theorem flat_le {α : Type} (f : α → List UInt8) (m : Nat) : ∀ {l : List α}, (∀ x ∈ l, (f x).length ≤ m) → (l.flatMap f).length ≤ l.length * m
  | [], _ => by simp
  | a :: r, h => by
    rw [List.flatMap_cons, List.length_append, List.length_cons, Nat.succ_mul]
    have h1 := h a (by simp)
    have h2 := flat_le f m (l := r) (fun x hx => h x (by simp [hx]))
    omega
theorem cmpL_len {c : Cmp} (hn : nameB c.name = true) (hf : c.fs.length ≤ 8) (ho : ∀ f ∈ c.fs, nameB f.name = true) : (cmpL c).length ≤ 140 := by
  unfold cmpL
  rw [List.length_append, List.length_append, List.length_append, leL_len, leL_len, nameL_len]
  have h1 := nameB_size hn
  have h2 := flat_le fldL 15 (l := c.fs) (fun f hf => fldL_len (ho f hf))
  omega
end Go.Proofs.YtfehiclbcebnoaaGreat

namespace Go.Proofs.YtfehiclbcebnoaaGreat
open Go.RowKit Go.Proofs.Heap Go.Proofs.Sch

/-- A field read, a component read. -/
def rdF (st : St) : Fld × St := (⟨(rdNm st).1, (rdN 1 (rdNm st).2).1, (rdN 1 (rdN 1 (rdNm st).2).2).1⟩, (rdN 1 (rdN 1 (rdNm st).2).2).2)
def rdC (st : St) : Cmp × St :=
  let i := rdN 1 st
  let nm := rdNm i.2
  let n := rdN 1 nm.2
  let fs := rdRow rdF n.1 n.2
  (⟨i.1, nm.1, fs.1⟩, fs.2)
structure PartsZ where
  m : Nat
  v : Int
  cs : List Cmp
  st : St
def partsZ (s : ByteArray) : PartsZ :=
  let m := rdN 1 (s, false)
  let v := rdN 4 m.2
  let n := rdN 1 v.2
  let cs := rdRow rdC n.1 n.2
  ⟨m.1, v.1, cs.1, cs.2⟩
def goodZ (s : ByteArray) : Bool := decide ((partsZ s).m = 83) && (!(partsZ s).st.2 && decide ((partsZ s).st.1.size = 0)) && decide (checkC (partsZ s).v (partsZ s).cs = 0)
/-- What bytes are decoded as: number, components, error. -/
def decV (s : ByteArray) : Int := if goodZ s = true then (partsZ s).v else 0
def decC (s : ByteArray) : List Cmp := if goodZ s = true then (partsZ s).cs else []
def decEZ (s : ByteArray) : Nat := if goodZ s = true then 0 else 4
theorem rdF_size (st : St) : (rdF st).2.1.size ≤ st.1.size := by
  have h1 := rdNm_size st
  have h2 := rdN_size 1 (rdNm st).2
  have h3 := rdN_size 1 (rdN 1 (rdNm st).2).2
  show (rdN 1 (rdN 1 (rdNm st).2).2).2.1.size ≤ _
  omega
theorem rdRow_size {α : Type} (f : St → α × St) (hf : ∀ st, (f st).2.1.size ≤ st.1.size) : ∀ (n : Nat) (st : St), (rdRow f n st).2.1.size ≤ st.1.size
  | 0, _ => Nat.le_refl _
  | n + 1, st => by
    rw [rdRow]
    split
    · exact Nat.le_refl _
    · exact Nat.le_trans (rdRow_size f hf n _) (hf st)
theorem rdC_size (st : St) : (rdC st).2.1.size ≤ st.1.size := by
  have h1 := rdN_size 1 st
  have h2 := rdNm_size (rdN 1 st).2
  have h3 := rdN_size 1 (rdNm (rdN 1 st).2).2
  have h4 := rdRow_size rdF rdF_size (rdN 1 (rdNm (rdN 1 st).2).2).1 (rdN 1 (rdNm (rdN 1 st).2).2).2
  show (rdRow rdF (rdN 1 (rdNm (rdN 1 st).2).2).1 (rdN 1 (rdNm (rdN 1 st).2).2).2).2.1.size ≤ _
  omega
end Go.Proofs.YtfehiclbcebnoaaGreat

namespace Go.Proofs.YtfehiclbcebnoaaGreat
open Go.RowKit Go.Proofs.Heap Go.Proofs.Sch

theorem results_2z {fn : Func} {p u : Tmp} (h : fn.results = #[.tmp p, .tmp u]) (tmps : Array Value) {P : Program} {w : World} : (results fn tmps).run P w = .ok (.tuple #[tmps.getD p undef, tmps.getD u undef]) w := by
  simp [results, h]
theorem u64_natZ (n : Nat) (h : n < 18446744073709551616) : IntKind.u64.wrap (n : Int) = (n : Int) := by rw [u64N_eq, u64N_nat h]
/-- What lies below a writer stays as it is. -/
theorem WrN.low {w w' : World} {q : Nat} {sv sv' : Value} {l : List UInt8} (hs : ∀ g, sv.ownBlock = some g → q ≤ g) (h : WrN w w' q q sv sv' l) (hq : q < w.heap.size) : Low q w w' := fun b hb =>
  h.keep.block b (by omega) (fun e => by
    rcases e with e | e
    · omega
    · have := hs _ e; omega)
theorem WrS.from {w : World} {q : Nat} {sv : Value} {l : List UInt8} (h : WrS w q q sv l) : ∀ g, sv.ownBlock = some g → q ≤ g := fun g hg => (h.own.lt g hg).1
/-- A new block keeps a writer. -/
theorem WrN.more {w wr wx : World} {q : Nat} {sv svk : Value} {l : List UInt8} (h : WrN w wr q q sv svk l) (hk : Keep (fun _ => False) wr wx) : WrN w wx q q sv svk l := by
  have hlt : ∀ g, svk.ownBlock = some g → wx.heap[g]? = wr.heap[g]? := fun g hg => hk.block g (h.st.own.lt g hg).2 id
  exact ⟨⟨(hk.block q (lt_of_heap h.st.block) id).trans h.st.block, owns_keep h.st.own hlt, h.st.ne, h.st.base⟩, h.keep.trans (hk.mono (fun _ _ e => e.elim)), h.own⟩

theorem kind_small {f : Fld} (h : okF f) : 0 ≤ f.kind ∧ f.kind ≤ 255 := by
  have h1 := h.1
  unfold szN sizeK at h1
  repeat' split at h1
  all_goals omega

set_option maxRecDepth 20000 in
set_option maxHeartbeats 16000000 in
theorem sc_comp (c : Cmp) (p : Option Addr) (cap q : Nat) (sv : Value) (l : List UInt8) (w : World) (hi : 1 ≤ c.id ∧ c.id ≤ 24) (hn : nameB c.name = true) (hf : c.fs.length ≤ 8) (ho : ∀ f ∈ c.fs, nameB f.name = true ∧ okF f)
    (hll : l.length ≤ 900000) (hW : WrS w q q sv l) (hP : FP w q p c.fs) :
    Calls Tryz.prog 33 #[.pointer (some ⟨q, 0, none⟩), .agg #[.int .i64 c.id, .string c.name, .slice p c.fs.length cap]] w fun r w' => ∃ sv', r = .returned (.tuple #[]) ∧ WrN w w' q q sv sv' (l ++ cmpL c) := by
  have HQ := hid (lt_of_heap hW.block)
  have HP := hid (fun (wy : World) (sv' : Value) (l' : List UInt8) (h : WrN w wy q q sv sv' l') => FP.low hP (h.low hW.from (lt_of_heap hW.block)))
  have HO := hid ho
  obtain ⟨w1, hw1, hb1, hs1, hk1⟩ := box1 w #[.int .i64 c.id, .string c.name, .slice p c.fs.length cap] 48
  have HN1 := hid ((WrN.refl hW).more hk1)
  have HB : Hid (∀ wy sv' l', WrN w1 wy q q sv sv' l' → wy.heap[w.heap.size]? = some (.cells #[.int .i64 c.id, .string c.name, .slice p c.fs.length cap] 48 (0, 0))) := hid (fun wy sv' l' h => h.keep.get hb1 (fun e => by
    rcases e with e | e
    · have := lt_of_heap hW.block; omega
    · have := (hW.own.lt _ e).2; omega))
  have HW1 := hid HN1.out.st
  have HT0 := hid (fun (wy : World) (sv' : Value) (l' : List UInt8) (h : WrN w1 wy q q sv sv' l') => HN1.out.trans h (lt_of_heap hW.block))
  have hnm := nameB_size hn
  have hn1 := nameL_len c.name
  have HU := hid (u64N_eq c.id)
  have HI : Hid (u64N c.id < 256) := hid (by rw [u64N_pos (by omega) (by omega)]; omega)
  clear hb1 hs1 hk1 ho hW hP
  go_enter Tryz.func33, Tryz.ntmps33
  go_upto_region 1 with fail
  rw [← hw1]
  clear hw1
  have hwl : IntKind.u64.wrap (c.fs.length : Int) = (c.fs.length : Int) := u64_natZ _ (by omega)
  generalize w.heap.size = cb at *
  have hu := HU.out
  have hh := HB.out w1 sv l (WrN.refl HW1.out)
  have c0 := cell_of hh (i := 0) (by rfl)
  clear hh
  go_wp2_with fail
  refine (oct_num1 (u64N c.id) HI.out q q sv l w1 (by omega) HW1.out).mono ?_
  rintro r w2 ⟨sv2, rfl, h2⟩
  have HN2 := hid h2
  have hh := HB.out w2 _ _ h2
  have c1 := cell_of hh (i := 1) (by rfl)
  clear hh h2 c0 hu
  go_wp2_with fail
  refine (wr_name c.name (by omega) q q sv2 _ w2 (by simp only [List.length_append, leL_len]; omega) HN2.out.st).mono ?_
  rintro r w3 ⟨sv3, rfl, h3⟩
  have HN3 := hid (HN2.out.trans h3 (lt_of_heap HW1.out.block))
  have hh := HB.out w3 _ _ HN3.out
  have c2 := cell_of hh (i := 2) (by rfl)
  clear hh h3 c1
  go_wp2_with fail
  refine (oct_num1 c.fs.length (by omega) q q sv3 _ w3 (by simp only [List.length_append, leL_len]; omega) HN3.out.st).mono ?_
  rintro r w4 ⟨sv4, rfl, h4⟩
  have HN4 := hid (HN3.out.trans h4 (lt_of_heap HW1.out.block))
  have hh := HB.out w4 _ _ HN4.out
  have c2 := cell_of hh (i := 2) (by rfl)
  clear hh h4
  obtain ⟨T, hT⟩ : ∃ T, l ++ leL 1 (u64N c.id) ++ nameL c.name ++ leL 1 c.fs.length = T := ⟨_, rfl⟩
  have HT : Hid (T.length ≤ 900100) := hid (by rw [← hT]; simp only [List.length_append, leL_len]; omega)
  have HTE := hid hT
  rw [hT] at HN4
  have HF8 := hid hf
  clear hT hnm hn1
  go_wp2_with fail
  clear c2 hwl hf
  go_loopw [5, 24] (fun _ i wr => ∃ (k : Nat) (sv' : Value), k ≤ c.fs.length ∧ i = iV k ∧ WrN w1 wr q q sv sv' (T ++ (c.fs.take k).flatMap fldL)) (fun _ i _ => c.fs.length + 1 - (intOf i).toNat)
  case atStart => exact ⟨0, sv4, by omega, rfl, by simpa using HN4.out⟩
  case round =>
    obtain ⟨k, svk, hk, rfl, hn⟩ := hrel
    have HNR := hid hn
    clear hn
    by_cases hlt : k < c.fs.length
    · obtain ⟨f, hx⟩ : ∃ f, c.fs[k]? = some f := ⟨c.fs[k], by simp [hlt]⟩
      have HX := hid (flat_next fldL hx)
      obtain ⟨b, off, rfl, hb, d0, d1, d2⟩ := FP.at (HP.out wr svk _ (HT0.out _ _ _ HNR.out)) hx
      have HOK := hid (HO.out f (List.mem_of_getElem? hx))
      have HLK : Hid (((c.fs.take k).flatMap fldL).length ≤ 120) := hid (by
        have h := flat_le fldL 15 (l := c.fs.take k) (fun g hg => fldL_len (HO.out g (List.mem_of_mem_take hg)).1)
        have h8 := HF8.out
        rw [List.length_take] at h
        have : min k c.fs.length * 15 ≤ 8 * 15 := Nat.mul_le_mul_right _ (by omega)
        omega)
      have hin : (0 : Int) ≤ (k : Int) ∧ (k : Int) < (c.fs.length : Int) := ⟨by omega, by omega⟩
      clear hx hb
      obtain ⟨wx, hwx, hbx, hsx, hkx⟩ := box1 wr #[.string f.name, .int .i64 f.kind, .int .i64 f.count] 45
      have HNX := hid (HNR.out.more hkx)
      have HXB : Hid (∀ wy sv' l', WrN wx wy q q svk sv' l' → wy.heap[wr.heap.size]? = some (.cells #[.string f.name, .int .i64 f.kind, .int .i64 f.count] 45 (0, 0))) := hid (fun wy sv' l' h => h.keep.get hbx (fun e => by
        rcases e with e | e
        · have := lt_of_heap HNR.out.st.block; omega
        · have := (HNR.out.st.own.lt _ e).2; omega))
      clear hbx hsx hkx
      go_upto_region 7 with fail
      rw [← hwx]
      clear hwx d0 d1 d2
      generalize wr.heap.size = xb at *
      have HQX := hid (lt_of_heap HNX.out.st.block)
      have HUK := hid (u64N_eq f.kind)
      have HUC := hid (u64N_eq f.count)
      have hnz := nameB_size HOK.out.1
      have HNZ := hid (nameL_len f.name)
      have HK6 : Hid (u64N f.kind < 256) := hid (by have := kind_small HOK.out.2; rw [u64N_pos (by omega) (by omega)]; omega)
      have HC6 : Hid (u64N f.count < 256) := hid (by have := HOK.out.2.2; rw [u64N_pos (by omega) (by omega)]; omega)
      have hh := HXB.out wx svk _ (WrN.refl HNX.out.st)
      have e0 := cell_of hh (i := 0) (by rfl)
      clear hh
      go_wp2_with fail
      refine (wr_name f.name (by omega) q q svk _ wx (by simp only [List.length_append]; have := HT.out; have := HLK.out; omega) HNX.out.st).mono ?_
      rintro r wa ⟨sva, rfl, ha⟩
      have HA := hid ha
      have hh := HXB.out wa _ _ ha
      have e1 := cell_of hh (i := 1) (by rfl)
      have huk := HUK.out
      clear hh ha e0
      go_wp2_with fail
      refine (oct_num1 (u64N f.kind) HK6.out q q sva _ wa (by simp only [List.length_append]; have := HT.out; have := HLK.out; have := HNZ.out; omega) HA.out.st).mono ?_
      rintro r wb ⟨svb, rfl, ha⟩
      have HB2 := hid (HA.out.trans ha HQX.out)
      have hh := HXB.out wb _ _ HB2.out
      have e2 := cell_of hh (i := 2) (by rfl)
      have huc := HUC.out
      clear hh ha e1 huk
      go_wp2_with fail
      refine (oct_num1 (u64N f.count) HC6.out q q svb _ wb (by simp only [List.length_append, leL_len]; have := HT.out; have := HLK.out; have := HNZ.out; omega) HB2.out.st).mono ?_
      rintro r wc ⟨svc, rfl, ha⟩
      have HC2 := hid (HB2.out.trans ha HQX.out)
      have HD := hid (HNX.out.trans HC2.out (lt_of_heap HW1.out.block))
      have hf8 := HF8.out
      clear ha e2 huc
      go_wp2
      go_roundw
      case rel =>
        refine ⟨k + 1, svc, by omega, by go_num, ?_⟩
        have h := HD.out
        rw [HX.out, ← List.append_assoc]
        simpa [fldL, List.append_assoc] using h
      case measure => simp [intOf]; omega
    · obtain rfl : k = c.fs.length := by omega
      have g1 : decide ((c.fs.length : Int) < (c.fs.length : Int)) = false := decide_eq_false (by omega)
      have HEND : Hid (WrN w wr q q sv svk (l ++ cmpL c)) := hid (by
        have h := HT0.out _ _ _ HNR.out
        rw [List.take_length, ← HTE.out] at h
        simpa [cmpL, List.append_assoc] using h)
      go_wp2
      go_end0
      exact ⟨_, rfl, HEND.out⟩

set_option maxRecDepth 20000 in
set_option maxHeartbeats 16000000 in
theorem sc_encode (v : Int) (cs : List Cmp) (p : Option Addr) (cap : Nat) (w : World) (hl : Small cs) (hc : CP w w.heap.size p cs) :
    Calls Tryz.prog 12 #[.agg #[.int .i64 v, .slice p cs.length cap]] w fun r w' => r = .returned (.tuple #[.string (encZ v cs), iV (checkC v cs)]) ∧ Keep (fun _ => False) w w' := by
  obtain ⟨w1, hw1, hb1, hs1, hk1⟩ := box1 w #[.int .i64 v, .slice p cs.length cap] 24
  have HCK := hid (sch_check v cs p cap w1 hl (CP.mono (CP.low hc (Low.keep0 hk1)) hk1.size))
  have HK1 := hid hk1; have HB1 := hid hb1; have HCP := hid hc
  have HWW := hid (Nat.le_refl w.heap.size)
  have c0 := cell_of hb1 (i := 0) (by rfl)
  have c1 := cell_of hb1 (i := 1) (by rfl)
  clear hb1 hs1 hk1 hl hc
  go_enter Tryz.func12, Tryz.ntmps12
  go_upto_region 1 with fail
  rw [← hw1]
  clear hw1
  generalize hsb : w.heap.size = sb at *
  go_wp2_with fail
  refine HCK.out.mono ?_
  rintro r w2 ⟨rfl, hk2⟩
  have HK2 := hid (HK1.out.trans hk2)
  have HB2 := hid (hk2.get HB1.out id)
  clear hk2 c0 c1 HCK
  by_cases hz : checkC v cs = 0
  rotate_left
  · have HE : Hid (encZ v cs = ⟨#[]⟩) := hid (if_neg hz)
    obtain ⟨R, hR⟩ : ∃ R, checkC v cs = R := ⟨_, rfl⟩
    rw [hR] at hz ⊢
    have HR := hid hR
    have g1 : ((R : Int) != 0) = true := by rw [bne_iff_ne]; omega
    have g2 : (R != 0) = true := by rw [bne_iff_ne]; exact hz
    clear hz hR
    go_wp2
    (try simp only [Exit.inBlock, Exit.then])
    refine bodyPost_ret (results_2z rfl _) rfl ?_
    exact ⟨by rw [HE.out, HR.out]; rfl, HK2.out⟩
  have HOK := hid (sch_ok hz)
  have HE : Hid (encZ v cs = ⟨(schL v cs).toArray⟩) := hid (if_pos hz)
  have HZ := hid hz
  rw [hz]
  clear hz
  obtain ⟨w3, hw3, hb3, hs3, hk3⟩ := box1 w2 #[.slice none 0 0] 61
  have HW3 : Hid (WrS w3 w2.heap.size w2.heap.size (.slice none 0 0) []) := hid ⟨hb3, World.ownsRow_nil _ _ _ _, by simp [Value.ownBlock], Nat.le_refl _⟩
  have HQ : Hid (w2.heap.size < w3.heap.size) := hid (by omega)
  have HSQ : Hid (sb < w2.heap.size) := hid (lt_of_heap HB2.out)
  have HB3 := hid (hk3.get HB2.out id)
  have HK3 := hid (HK2.out.trans hk3)
  have HLOW : Hid (∀ wy sv l, WrN w3 wy w2.heap.size w2.heap.size (.slice none 0 0) sv l → Low w2.heap.size w3 wy) := hid (fun wy sv l h => h.low HW3.out.from HQ.out)
  have HCB : Hid (∀ wy sv l, WrN w3 wy w2.heap.size w2.heap.size (.slice none 0 0) sv l → CP wy w2.heap.size p cs) := hid (fun wy sv l h => by
    have h1 : CP w3 sb p cs := CP.low HCP.out (by have := Low.keep0 HK3.out; rwa [hsb] at this)
    exact CP.low (CP.mono h1 (by have := HSQ.out; omega)) (HLOW.out wy sv l h))
  have HBB : Hid (∀ wy sv l, WrN w3 wy w2.heap.size w2.heap.size (.slice none 0 0) sv l → wy.heap[sb]? = some (.cells #[.int .i64 v, .slice p cs.length cap] 24 (0, 0))) := hid (fun wy sv l h => (HLOW.out wy sv l h sb HSQ.out).trans HB3.out)
  have HKF : Hid (∀ wy sv l, WrN w3 wy w2.heap.size w2.heap.size (.slice none 0 0) sv l → Keep (fun _ => False) w wy) := hid (fun wy sv l h => keep_new HK3.out h.keep (fun k e => by
    rcases e with e | e
    · have := HSQ.out; omega
    · simp [Value.ownBlock] at e))
  clear hb3 hs3 hk3
  go_upto_region 5 with fail
  rw [← hw3]
  clear hw3
  generalize w2.heap.size = q at *
  have HV0 : Hid (u64N v < 4294967296) := hid (by have := HOK.out.1; rw [u64N_pos (by omega) (by omega)]; omega)
  have HVU := hid (u64N_eq v)
  have HL24 := hid HOK.out.2.1
  go_wp2_with fail
  refine (oct_num1 83 (by omega) q q _ [] w3 (by simp) HW3.out).mono ?_
  rintro r w4 ⟨sv4, rfl, hn⟩
  have HN4 := hid hn
  have c0 := cell_of (HBB.out w4 _ _ hn) (i := 0) (by rfl)
  have hvu := HVU.out
  clear hn
  go_wp2_with fail
  refine (oct_num4 (u64N v) HV0.out q q sv4 _ w4 (by simp [leL_len]) HN4.out.st).mono ?_
  rintro r w5 ⟨sv5, rfl, hn⟩
  have HN5 := hid (HN4.out.trans hn HQ.out)
  have c1 := cell_of (HBB.out w5 _ _ HN5.out) (i := 1) (by rfl)
  have hwl : IntKind.u64.wrap (cs.length : Int) = (cs.length : Int) := u64_natZ _ (by have := HL24.out; omega)
  clear hn c0 hvu
  go_wp2_with fail
  refine (oct_num1 cs.length (by have := HL24.out; omega) q q sv5 _ w5 (by simp [leL_len]) HN5.out.st).mono ?_
  rintro r w6 ⟨sv6, rfl, hn⟩
  have HN6 := hid (HN5.out.trans hn HQ.out)
  have c1 := cell_of (HBB.out w6 _ _ HN6.out) (i := 1) (by rfl)
  clear hn
  obtain ⟨T, hT⟩ : ∃ T, [] ++ leL 1 83 ++ leL 4 (u64N v) ++ leL 1 cs.length = T := ⟨_, rfl⟩
  have HT : Hid (T.length ≤ 100) := hid (by rw [← hT]; simp [leL_len])
  have HTE := hid hT
  rw [hT] at HN6
  clear hT
  go_wp2_with fail
  clear c1 hwl
  go_loopw [7, 31] (fun _ i wr => ∃ (k : Nat) (sv' : Value), k ≤ cs.length ∧ i = iV k ∧ WrN w3 wr q q (.slice none 0 0) sv' (T ++ (cs.take k).flatMap cmpL)) (fun _ i _ => cs.length + 1 - (intOf i).toNat)
  case atStart => exact ⟨0, sv6, by omega, rfl, by simpa using HN6.out⟩
  case round =>
    obtain ⟨k, svk, hk, rfl, hn⟩ := hrel
    have HNR := hid hn
    clear hn
    by_cases hlt : k < cs.length
    · obtain ⟨c, hx⟩ : ∃ c, cs[k]? = some c := ⟨cs[k], by simp [hlt]⟩
      have HX := hid (flat_next cmpL hx)
      obtain ⟨b, off, fp, fc, rfl, hb, d0, d1, d2, d3⟩ := CP.at (HCB.out wr svk _ HNR.out) hx
      have HCO := hid (HOK.out.2.2 c (List.mem_of_getElem? hx))
      have HFP := hid d3.2
      have HLK : Hid (((cs.take k).flatMap cmpL).length ≤ 3360) := hid (by
        have h := flat_le cmpL 140 (l := cs.take k) (fun g hg => by
          have := HOK.out.2.2 g (List.mem_of_mem_take hg)
          exact cmpL_len this.2.1 this.2.2.1 (fun f hf => (this.2.2.2 f hf).1))
        have h8 := HL24.out
        rw [List.length_take] at h
        have : min k cs.length * 140 ≤ 24 * 140 := Nat.mul_le_mul_right _ (by omega)
        omega)
      have hin : (0 : Int) ≤ (k : Int) ∧ (k : Int) < (cs.length : Int) := ⟨by omega, by omega⟩
      clear hx hb d3
      obtain ⟨wx, hwx, hbx, hsx, hkx⟩ := box1 wr #[.int .i64 c.id, .string c.name, .slice fp c.fs.length fc] 48
      have HNX := hid (HNR.out.more hkx)
      have HFX := hid (FP.low HFP.out (fun b hb => hkx.block b (by have := lt_of_heap HNR.out.st.block; omega) id))
      have e0 := cell_of hbx (i := 0) (by rfl)
      have e1 := cell_of hbx (i := 1) (by rfl)
      have e2 := cell_of hbx (i := 2) (by rfl)
      clear hbx hsx hkx
      go_upto_region 11 with fail
      rw [← hwx]
      clear hwx d0 d1 d2
      generalize wr.heap.size = xb at *
      go_wp2_with fail
      refine (sc_comp c fp fc q svk _ wx HCO.out.1 HCO.out.2.1 HCO.out.2.2.1 HCO.out.2.2.2 (by simp only [List.length_append]; have := HT.out; have := HLK.out; omega) HNX.out.st HFX.out).mono ?_
      rintro r wz ⟨svz, rfl, hn⟩
      have HNZ := hid (HNX.out.trans hn HQ.out)
      have hl24 := HL24.out
      clear hn e0 e1 e2
      go_wp2
      go_roundw
      case rel => exact ⟨k + 1, svz, by omega, by go_num, by rw [HX.out, ← List.append_assoc]; exact HNZ.out⟩
      case measure => simp [intOf]; omega
    · obtain rfl : k = cs.length := by omega
      have g1 : decide ((cs.length : Int) < (cs.length : Int)) = false := decide_eq_false (by omega)
      have HEND : Hid (WrN w3 wr q q (.slice none 0 0) svk (schL v cs)) := hid (by
        have h := HNR.out
        rw [List.take_length, ← HTE.out] at h
        simpa [schL, List.append_assoc] using h)
      go_wp2_with fail
      refine (wr_string q q svk _ wr HEND.out.st).mono ?_
      rintro r w_ ⟨rfl, rfl⟩
      have HK := hid (HKF.out _ _ _ HEND.out)
      clear g1
      go_wp2
      (try simp only [Exit.inBlock, Exit.then])
      refine bodyPost_ret (results_2z rfl _) rfl ?_
      exact ⟨by rw [HE.out, HZ.out]; rfl, HK.out⟩
end Go.Proofs.YtfehiclbcebnoaaGreat

namespace Go.Proofs.YtfehiclbcebnoaaGreat
open Go.RowKit Go.Proofs.Heap Go.Proofs.Sch

/-- Bytes of a list. -/
def bsB (l : List UInt8) : ByteArray := ⟨l.toArray⟩
theorem bs_list (l : List UInt8) : (bsB l).data.toList = l := rfl
theorem bs_of (s : ByteArray) : bsB s.data.toList = s := by cases s; rfl
theorem bs_size (l : List UInt8) : (bsB l).size = l.length := by simp [bsB, ByteArray.size]
theorem bs_ext (l : List UInt8) (a b : Nat) : (bsB l).extract a b = bsB ((l.drop a).take (b - a)) := by
  unfold bsB
  apply ByteArray.ext
  rw [ByteArray.data_extract]
  apply Array.toList_inj.1
  rw [Array.toList_extract, List.extract_eq_take_drop]
theorem bs_drop (l : List UInt8) (a : Nat) : (bsB l).extract a (bsB l).size = bsB (l.drop a) := by
  rw [bs_ext, bs_size, List.take_of_length_le (by rw [List.length_drop]; omega)]
theorem bs_inj {a b : List UInt8} (h : bsB a = bsB b) : a = b := by rw [← bs_list a, h, bs_list]

theorem rdN_app {wd n : Nat} (h : n < 256 ^ wd) (r : List UInt8) : rdN wd (bsB (leL wd n ++ r), false) = (n, (bsB r, false)) := by
  have h1 : firstN (bsB (leL wd n ++ r)) wd = n := by
    unfold firstN
    rw [bs_list, List.take_append_of_le_length (by rw [leL_len]; omega), List.take_of_length_le (by rw [leL_len]; omega), leN_leL, Nat.mod_eq_of_lt h]
  have h2 : (leL wd n ++ r).drop wd = r := by
    rw [List.drop_append_of_le_length (by rw [leL_len]; omega), List.drop_of_length_le (by rw [leL_len]; omega)]; rfl
  unfold rdN
  rw [if_pos ⟨rfl, by rw [bs_size, List.length_append, leL_len]; exact Nat.le_add_right _ _⟩]
  simp only [bs_drop, h1, h2]
theorem rdN_un {wd : Nat} {st : St} {n : Nat} {s' : ByteArray} (h : rdN wd st = (n, (s', false))) : st.2 = false ∧ st.1.data.toList = leL wd n ++ s'.data.toList := by
  obtain ⟨s, bad⟩ := st
  obtain ⟨l, rfl⟩ : ∃ l, s = bsB l := ⟨_, (bs_of s).symm⟩
  unfold rdN at h
  split at h
  next hc =>
    obtain ⟨h0, hle⟩ := hc
    simp only [bs_drop, Prod.mk.injEq, and_true] at h
    obtain ⟨rfl, rfl⟩ := h
    refine ⟨h0, ?_⟩
    simp only [bs_size] at hle
    have h3 := leL_leN (l.take wd)
    rw [List.length_take, Nat.min_eq_left hle] at h3
    unfold firstN
    rw [bs_list, bs_list, h3, List.take_append_drop]
  · simp only [Prod.mk.injEq, Bool.true_eq_false, and_false] at h
theorem rdNm_app {t : ByteArray} (h : t.size < 256) (r : List UInt8) : rdNm (bsB (nameL t ++ r), false) = (t, (bsB r, false)) := by
  obtain ⟨l, rfl⟩ : ∃ l, t = bsB l := ⟨_, (bs_of t).symm⟩
  rw [bs_size] at h
  have hL : nameL (bsB l) ++ r = leL 1 l.length ++ (l ++ r) := by unfold nameL; rw [bs_list, bs_size, List.append_assoc]
  rw [hL]
  have h1 : firstN (bsB (leL 1 l.length ++ (l ++ r))) 1 = l.length := by
    unfold firstN
    rw [bs_list, List.take_append_of_le_length (by rw [leL_len]; omega), List.take_of_length_le (by rw [leL_len]; omega), leN_leL, Nat.mod_eq_of_lt (by omega)]
  have h2 : (leL 1 l.length ++ (l ++ r)).drop (1 + l.length) = r := by
    rw [← List.drop_drop, List.drop_left' (leL_len _ _), List.drop_left' rfl]
  have h3 : ((leL 1 l.length ++ (l ++ r)).drop 1).take (1 + l.length - 1) = l := by
    rw [List.drop_left' (leL_len _ _), List.take_left' (by omega)]
  unfold rdNm
  rw [if_pos ⟨rfl, by
    unfold nmOk
    simp only [h1, bs_size, List.length_append, leL_len]
    omega⟩]
  simp only [h1, bs_drop, h2]
  rw [bs_ext, h3]
theorem rdNm_un {st : St} {t s' : ByteArray} (h : rdNm st = (t, (s', false))) : st.2 = false ∧ st.1.data.toList = nameL t ++ s'.data.toList ∧ t.size < 256 := by
  obtain ⟨s, bad⟩ := st
  obtain ⟨l, rfl⟩ : ∃ l, s = bsB l := ⟨_, (bs_of s).symm⟩
  unfold rdNm at h
  split at h
  next hc =>
    obtain ⟨h0, h1, hle⟩ := hc
    simp only [bs_drop, Prod.mk.injEq, and_true] at h
    obtain ⟨rfl, rfl⟩ := h
    rw [bs_ext]
    simp only [bs_size] at h1 hle
    have h3 := leL_leN (l.take 1)
    rw [List.length_take, Nat.min_eq_left h1] at h3
    have h4 : leN (l.take 1) < 256 := by have := leN_lt (l.take 1); rw [List.length_take, Nat.min_eq_left h1] at this; omega
    unfold firstN at hle ⊢
    rw [bs_list] at hle ⊢
    refine ⟨h0, ?_, ?_⟩
    · unfold nameL
      rw [bs_size, List.length_take, List.length_drop, Nat.min_eq_left (by omega), Nat.add_sub_cancel_left, h3, List.append_assoc, ← List.drop_drop, bs_list, bs_list, List.take_append_drop, List.take_append_drop]
    · rw [bs_size, List.length_take]; omega
  · simp only [Prod.mk.injEq, Bool.true_eq_false, and_false] at h
theorem rdRow_app {α : Type} (f : St → α × St) (g : α → List UInt8) : ∀ (l : List α) (_ : ∀ x ∈ l, ∀ r, f (bsB (g x ++ r), false) = (x, (bsB r, false))) (r : List UInt8), rdRow f l.length (bsB (l.flatMap g ++ r), false) = (l, (bsB r, false))
  | [], _, r => rfl
  | x :: l, h, r => by
    rw [List.length_cons, rdRow_next f _ rfl, List.flatMap_cons, List.append_assoc, h x (List.mem_cons_self ..)]
    rw [rdRow_app f g l (fun y hy => h y (List.mem_cons_of_mem _ hy)) r]
theorem rdRow_un {α : Type} (f : St → α × St) (g : α → List UInt8) (h : ∀ st x s', f st = (x, (s', false)) → st.2 = false ∧ st.1.data.toList = g x ++ s'.data.toList) : ∀ (n : Nat) (st : St) (l : List α) (s' : ByteArray), rdRow f n st = (l, (s', false)) → st.2 = false ∧ l.length = n ∧ st.1.data.toList = l.flatMap g ++ s'.data.toList
  | 0, st, l, s', hr => by
    rw [rdRow] at hr
    obtain ⟨s, bad⟩ := st
    simp only [Prod.mk.injEq] at hr
    obtain ⟨rfl, rfl, rfl⟩ := hr
    exact ⟨rfl, rfl, rfl⟩
  | n + 1, st, l, s', hr => by
    cases hb : st.2
    · rw [rdRow_next f n hb] at hr
      simp only [Prod.mk.injEq] at hr
      obtain ⟨rfl, hs⟩ := hr
      have h1 := rdRow_un f g h n (f st).2 _ s' (Prod.ext rfl hs)
      have h2 := h st (f st).1 (f st).2.1 (Prod.ext rfl (Prod.ext rfl h1.1))
      refine ⟨rfl, by rw [List.length_cons, h1.2.1], ?_⟩
      rw [h2.2, h1.2.2, List.flatMap_cons, List.append_assoc]
    · rw [rdRow_bad f (n + 1) hb] at hr
      simp only [Prod.mk.injEq] at hr
      rw [hr.2] at hb
      cases hb
theorem u64_wrap {n : Nat} (h : n < 18446744073709551616) : u64N (wrap64 (n : Int)) = n := by
  unfold u64N wrap64; omega
theorem wrap_u64 {k : Int} (h0 : -9223372036854775808 ≤ k) (h1 : k < 9223372036854775808) : wrap64 (u64N k : Int) = k := by
  unfold u64N wrap64; omega
end Go.Proofs.YtfehiclbcebnoaaGreat

namespace Go.Proofs.YtfehiclbcebnoaaGreat
open Go.RowKit Go.Proofs.Heap Go.Proofs.Sch

theorem rdF_app {f : Fld} (hn : nameB f.name = true) (ho : okF f) (r : List UInt8) : rdF (bsB (fldL f ++ r), false) = (f, (bsB r, false)) := by
  obtain ⟨nm, kd, ct⟩ := f
  have h1 := kind_small ho
  have h2 := ho.2
  simp only at hn h1 h2
  have p0 : nm.size < 256 := by have := nameB_size hn; omega
  have p1 : u64N kd < 256 ^ 1 := by unfold u64N; omega
  have p2 : u64N ct < 256 ^ 1 := by unfold u64N; omega
  have q1 : (u64N kd : Int) = kd := by unfold u64N; omega
  have q2 : (u64N ct : Int) = ct := by unfold u64N; omega
  unfold rdF fldL
  simp only [List.append_assoc, rdNm_app p0, rdN_app p1, rdN_app p2, q1, q2]
theorem rdF_un {st : St} {f : Fld} {s' : ByteArray} (h : rdF st = (f, (s', false))) : st.2 = false ∧ st.1.data.toList = fldL f ++ s'.data.toList := by
  unfold rdF at h
  obtain ⟨⟨n1, sa⟩, ea⟩ : ∃ x, rdNm st = x := ⟨_, rfl⟩
  obtain ⟨⟨n2, sb⟩, eb⟩ : ∃ x, rdN 1 sa = x := ⟨_, rfl⟩
  obtain ⟨⟨n3, sc⟩, ec⟩ : ∃ x, rdN 1 sb = x := ⟨_, rfl⟩
  simp only [ea, eb, ec, Prod.mk.injEq] at h
  obtain ⟨rfl, rfl⟩ := h
  have l2 := rdN_lt 1 sa; rw [eb] at l2
  have l3 := rdN_lt 1 sb; rw [ec] at l3
  simp only at l2 l3
  have h3 := rdN_un ec
  have h2 := rdN_un (eb.trans (Prod.ext rfl (Prod.ext rfl h3.1)))
  have h1 := rdNm_un (ea.trans (Prod.ext rfl (Prod.ext rfl h2.1)))
  refine ⟨h1.1, ?_⟩
  unfold fldL
  simp only [u64N_nat (show n2 < 18446744073709551616 by omega), u64N_nat (show n3 < 18446744073709551616 by omega)]
  rw [h1.2.1, h2.2, h3.2]
  simp only [List.append_assoc]
/-- What a component that can be is. -/
abbrev OkC (c : Cmp) : Prop := (1 ≤ c.id ∧ c.id ≤ 24) ∧ nameB c.name = true ∧ c.fs.length ≤ 8 ∧ ∀ f ∈ c.fs, nameB f.name = true ∧ okF f
theorem rdC_app {c : Cmp} (h : OkC c) (r : List UInt8) : rdC (bsB (cmpL c ++ r), false) = (c, (bsB r, false)) := by
  obtain ⟨id, nm, fs⟩ := c
  obtain ⟨h1, h2, h3, h4⟩ := h
  simp only at h1 h2 h3 h4
  have p0 : nm.size < 256 := by have := nameB_size h2; omega
  have p1 : u64N id < 256 ^ 1 := by unfold u64N; omega
  have p2 : fs.length < 256 ^ 1 := by omega
  have q1 : (u64N id : Int) = id := by unfold u64N; omega
  have r1 := fun r => rdRow_app rdF fldL fs (fun f hf r => rdF_app (h4 f hf).1 (h4 f hf).2 r) r
  unfold rdC cmpL
  simp only [List.append_assoc, rdN_app p1, rdNm_app p0, rdN_app p2, r1, q1]
theorem rdC_un {st : St} {c : Cmp} {s' : ByteArray} (h : rdC st = (c, (s', false))) : st.2 = false ∧ st.1.data.toList = cmpL c ++ s'.data.toList := by
  unfold rdC at h
  obtain ⟨⟨id, sa⟩, ea⟩ : ∃ x, rdN 1 st = x := ⟨_, rfl⟩
  obtain ⟨⟨nm, sb⟩, eb⟩ : ∃ x, rdNm sa = x := ⟨_, rfl⟩
  obtain ⟨⟨n, sc⟩, ec⟩ : ∃ x, rdN 1 sb = x := ⟨_, rfl⟩
  obtain ⟨⟨fs, sd⟩, ed⟩ : ∃ x, rdRow rdF n sc = x := ⟨_, rfl⟩
  simp only [ea, eb, ec, ed, Prod.mk.injEq] at h
  obtain ⟨rfl, rfl⟩ := h
  have l1 := rdN_lt 1 st; rw [ea] at l1
  have l3 := rdN_lt 1 sb; rw [ec] at l3
  simp only at l1 l3
  have h4 := rdRow_un rdF fldL (fun _ _ _ h => rdF_un h) n sc fs s' ed
  have h3 := rdN_un (ec.trans (Prod.ext rfl (Prod.ext rfl h4.1)))
  have h2 := rdNm_un (eb.trans (Prod.ext rfl (Prod.ext rfl h3.1)))
  have h1 := rdN_un (ea.trans (Prod.ext rfl (Prod.ext rfl h2.1)))
  refine ⟨h1.1, ?_⟩
  unfold cmpL
  simp only [u64N_nat (show id < 18446744073709551616 by omega), h4.2.1]
  rw [h1.2, h2.2.1, h3.2, h4.2.2]
  simp only [List.append_assoc]
theorem partsZ_enc {v : Int} {cs : List Cmp} (h : checkC v cs = 0) (r : List UInt8) : partsZ (bsB (schL v cs ++ r)) = ⟨83, v, cs, (bsB r, false)⟩ := by
  obtain ⟨h1, h2, h3⟩ := sch_ok h
  have p0 : 83 < 256 ^ 1 := by decide
  have p1 : u64N v < 256 ^ 4 := by unfold u64N; omega
  have p2 : cs.length < 256 ^ 1 := by omega
  have q1 : (u64N v : Int) = v := by unfold u64N; omega
  have r1 := fun r => rdRow_app rdC cmpL cs (fun c hc r => rdC_app (h3 c hc) r) r
  unfold partsZ schL
  simp only [List.append_assoc, rdN_app p0, rdN_app p1, rdN_app p2, r1, q1]
theorem enc_partsZ {s : ByteArray} (h : goodZ s = true) : s.data.toList = schL (partsZ s).v (partsZ s).cs := by
  unfold goodZ at h
  simp only [Bool.and_eq_true, decide_eq_true_eq, Bool.not_eq_true'] at h
  obtain ⟨⟨hm, hb, hz⟩, _⟩ := h
  obtain ⟨⟨m, st1⟩, e1⟩ : ∃ x, rdN 1 (s, false) = x := ⟨_, rfl⟩
  obtain ⟨⟨v, st2⟩, e2⟩ : ∃ x, rdN 4 st1 = x := ⟨_, rfl⟩
  obtain ⟨⟨n, st3⟩, e3⟩ : ∃ x, rdN 1 st2 = x := ⟨_, rfl⟩
  obtain ⟨⟨cs, st4⟩, e4⟩ : ∃ x, rdRow rdC n st3 = x := ⟨_, rfl⟩
  have HP : partsZ s = ⟨m, (v : Int), cs, st4⟩ := by unfold partsZ; simp only [e1, e2, e3, e4]
  rw [HP] at hm hb hz ⊢
  simp only at hm hb hz ⊢
  subst hm
  have l2 := rdN_lt 4 st1; rw [e2] at l2
  simp only at l2
  have h4 := rdRow_un rdC cmpL (fun _ _ _ h => rdC_un h) n st3 cs st4.1 (e4.trans (Prod.ext rfl (Prod.ext rfl hb)))
  have h3 := rdN_un (e3.trans (Prod.ext rfl (Prod.ext rfl h4.1)))
  have h2 := rdN_un (e2.trans (Prod.ext rfl (Prod.ext rfl h3.1)))
  have h1 := rdN_un (e1.trans (Prod.ext rfl (Prod.ext rfl h2.1)))
  have h0 : st4.1.data.toList = [] := List.eq_nil_of_length_eq_zero (by rw [Array.length_toList]; exact hz)
  have e : s.data.toList = _ := h1.2
  unfold schL
  simp only [u64N_nat (show v < 18446744073709551616 by omega), h4.2.1]
  rw [e, h2.2, h3.2, h4.2.2, h0]
  simp only [List.append_assoc, List.append_nil]
theorem goodZ_enc {v : Int} {cs : List Cmp} (h : checkC v cs = 0) : goodZ (bsB (schL v cs)) = true := by
  have h1 := partsZ_enc h []
  rw [List.append_nil] at h1
  unfold goodZ
  rw [h1]
  simp [h, bs_size]
theorem decZ_enc {v : Int} {cs : List Cmp} (h : checkC v cs = 0) : decV (bsB (schL v cs)) = v ∧ decC (bsB (schL v cs)) = cs ∧ decEZ (bsB (schL v cs)) = 0 := by
  have h1 := partsZ_enc h []
  rw [List.append_nil] at h1
  unfold decV decC decEZ
  rw [if_pos (goodZ_enc h), if_pos (goodZ_enc h), if_pos (goodZ_enc h), h1]
  exact ⟨rfl, rfl, rfl⟩
theorem goodZ_check {s : ByteArray} (h : goodZ s = true) : checkC (partsZ s).v (partsZ s).cs = 0 := by
  unfold goodZ at h
  simp only [Bool.and_eq_true, decide_eq_true_eq] at h
  exact h.2
theorem goodZ_more {v : Int} {cs : List Cmp} (h : checkC v cs = 0) (m : UInt8) : goodZ (bsB (schL v cs ++ [m])) = false := by
  unfold goodZ
  rw [partsZ_enc h [m]]
  simp [bs_size]
theorem goodZ_of {s : ByteArray} (h : goodZ s = true) : decV s = (partsZ s).v ∧ decC s = (partsZ s).cs ∧ checkC (decV s) (decC s) = 0 ∧ encZ (decV s) (decC s) = s := by
  have h1 : decV s = (partsZ s).v := if_pos h
  have h2 : decC s = (partsZ s).cs := if_pos h
  refine ⟨h1, h2, by rw [h1, h2]; exact goodZ_check h, ?_⟩
  rw [h1, h2]
  unfold encZ
  rw [if_pos (goodZ_check h), ← enc_partsZ h]
theorem goodZ_less {v : Int} {cs : List Cmp} (h : checkC v cs = 0) {s : ByteArray} {b : UInt8} (hs : schL v cs = s.data.toList ++ [b]) : goodZ s = false := by
  cases hg : goodZ s
  · rfl
  · exfalso
    have h1 := partsZ_enc (goodZ_check hg) [b]
    rw [← enc_partsZ hg, ← hs] at h1
    have h2 := partsZ_enc h []
    rw [List.append_nil, h1] at h2
    have h3 := congrArg (fun p : PartsZ => p.st.1.size) h2
    simp [bs_size] at h3
theorem schL_pos (v : Int) (cs : List Cmp) : 1 ≤ (schL v cs).length := by
  unfold schL
  simp only [List.length_append, leL_len]
  omega
theorem encZ_more {v : Int} {cs : List Cmp} (h : checkC v cs = 0) (m : UInt8) : decEZ (encZ v cs ++ ⟨#[m]⟩) = 4 := by
  have e : encZ v cs ++ ⟨#[m]⟩ = bsB (schL v cs ++ [m]) := by
    unfold encZ; rw [if_pos h]
    apply ByteArray.ext
    apply Array.toList_inj.1
    rw [ByteArray.data_append, Array.toList_append]; rfl
  rw [e]
  unfold decEZ; rw [goodZ_more h m]; rfl
theorem encZ_less {v : Int} {cs : List Cmp} (h : checkC v cs = 0) : decEZ ((encZ v cs).extract 0 ((encZ v cs).size - 1)) = 4 := by
  have e0 : encZ v cs = bsB (schL v cs) := if_pos h
  have hp := schL_pos v cs
  have e : (encZ v cs).extract 0 ((encZ v cs).size - 1) = bsB ((schL v cs).take ((schL v cs).length - 1)) := by
    rw [e0, bs_ext, bs_size, List.drop_zero, Nat.sub_zero]
  rw [e]
  unfold decEZ
  have hd : (schL v cs).drop ((schL v cs).length - 1) = [(schL v cs)[(schL v cs).length - 1]] := by
    rw [List.drop_eq_getElem_cons (by omega), List.drop_of_length_le (by omega)]
  rw [goodZ_less h (b := (schL v cs)[(schL v cs).length - 1]) (by rw [bs_list, ← hd, List.take_append_drop])]
  rfl
/-- Unlike schemas have unlike bytes. -/
theorem encZ_inj {v v2 : Int} {cs cs2 : List Cmp} (h : checkC v cs = 0) (h2 : checkC v2 cs2 = 0) (he : encZ v cs = encZ v2 cs2) : v = v2 ∧ cs = cs2 := by
  have e1 : encZ v cs = bsB (schL v cs) := if_pos h
  have e2 : encZ v2 cs2 = bsB (schL v2 cs2) := if_pos h2
  obtain ⟨a1, a2, _⟩ := decZ_enc h
  obtain ⟨b1, b2, _⟩ := decZ_enc h2
  rw [← e1] at a1 a2
  rw [← e2, ← he] at b1 b2
  exact ⟨a1.symm.trans b1, a2.symm.trans b2⟩
end Go.Proofs.YtfehiclbcebnoaaGreat
