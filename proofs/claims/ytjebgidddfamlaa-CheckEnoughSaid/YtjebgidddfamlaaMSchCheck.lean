/- What is proved: what the schema's Check answers. -/
import Derived.Test.YtjebgidddfamlaaMWide2
import Derived.Test.YtjebgidddfamlaaMRegion
import Derived.Deep.Cut
import Derived.Deep.CutRange
import Derived.Deep.CutBlock
import Derived.Test.YtjebgidddfamlaaMHeap
import Derived.SizedLaws
import Derived.Test.YtjebgidddfamlaaMLay
namespace Go.Proofs.Ytjebgidddfamlaa
open Go.RowKit Go.Proofs.Heap Go.Proofs.Sch Go.Proofs.TMap

/-- The error of the components that are left. -/
def compsC : Int → List ByteArray → List Cmp → Nat
  | _, _, [] => 0
  | last, seen, c :: r => if c.id ≤ last ∨ 24 < c.id then 1 else if nameB c.name = false ∨ memB c.name seen = true then 4 else if fieldsC c.fs = 0 then compsC c.id (seen ++ [c.name]) r else fieldsC c.fs
/-- The error of a schema. -/
def checkC (v : Int) (cs : List Cmp) : Nat := if v < 1 ∨ 1073741824 < v then 1 else compsC 0 [] cs

/-- A schema of no great size. -/
def Small (cs : List Cmp) : Prop := cs.length ≤ 2932031007402 ∧ ∀ c ∈ cs, c.fs.length ≤ 4398046511104

set_option maxRecDepth 20000 in
set_option maxHeartbeats 4000000 in
theorem sch_check (v : Int) (cs : List Cmp) (p : Option Addr) (cap : Nat) (w : World) (hl : Small cs) (hf : CP w w.heap.size p cs) :
    Calls Try.prog 48 #[.agg #[.int .i64 v, .slice p cs.length cap]] w fun r w' => r = .returned (iV (checkC v cs)) ∧ Keep (fun _ => False) w w' := by
  have hl1 := hl.1
  have HL := hid hl.2
  have hb0 := heap_alloc_new w (.cells #[.int .i64 v, .slice p cs.length cap] 46)
  have hk0 := (Keep.refl (fun _ => False) w).alloc (.cells #[.int .i64 v, .slice p cs.length cap] 46)
  have hf1 := CP.low hf (Low.of_keep hk0 (Nat.le_refl _) (fun _ h => h.elim))
  have HF := hid (CP.mono hf1 hk0.size)
  have HB0 := hid hb0; have HK0 := hid hk0
  have hmm := @run_makeMap Try.prog
  clear hl hf hf1 hb0 hk0
  go_enter Try.func48, Try.ntmps48
  go_upto_region 1 with fail
  generalize w.alloc (.cells #[.int .i64 v, .slice p cs.length cap] 46) = w0 at *
  have hw0 := lt_of_heap HB0.out
  generalize w.heap.size = sb at *
  have hc0 : w0.cell? ⟨sb, 0, none⟩ = some (.int .i64 v) := cell_of HB0.out (by rfl)
  have hc1 : w0.cell? ⟨sb, 1, none⟩ = some (.slice p cs.length cap) := cell_of HB0.out (by rfl)
  by_cases h1 : v < 1
  · have g1 : decide (v < 1) = true := decide_eq_true h1
    have G3 : Hid (checkC v cs = 1) := hid (by unfold checkC; rw [if_pos (.inl h1)])
    clear h1
    go_wp2
    go_ret
    exact ⟨by rw [G3.out]; rfl, HK0.out⟩
  have g1 : decide (v < 1) = false := decide_eq_false h1
  by_cases h2 : 1073741824 < v
  · have g2 : decide (1073741824 < v) = true := decide_eq_true h2
    have G3 : Hid (checkC v cs = 1) := hid (by unfold checkC; rw [if_pos (.inr h2)])
    clear h1 h2
    go_wp2
    go_ret
    exact ⟨by rw [G3.out]; rfl, HK0.out⟩
  have g2 : decide (1073741824 < v) = false := decide_eq_false h2
  have HCC : Hid (checkC v cs = compsC 0 [] cs) := hid (by unfold checkC; rw [if_neg (by omega)])
  have HM0 : Hid (TS (w0.alloc (.map #[] 0)) w0.heap.size 0 (seenF [])) := hid (TM.made w0)
  have HK1 := hid ((Keep.refl (fun _ => False) w0).alloc (.map #[] 0))
  have hc1' : (w0.alloc (.map #[] 0)).cell? ⟨sb, 1, none⟩ = some (.slice p cs.length cap) := by rw [World.cell?_of_block (a := ⟨sb, 1, none⟩) (HK1.out.block sb hw0 id)]; exact hc1
  clear h1 h2
  go_wp2_with fail
  clear hmm g1 g2 hc0 hc1 hc1'
  go_loopw [4, 6, 7, 20] (fun la _ _ i wr => ∃ (k : Nat) (last : Int), k ≤ cs.length ∧ i = iV k ∧ la = .int .i64 last ∧ Keep (fun _ => False) w0 wr ∧ TS wr w0.heap.size k (seenF ((cs.take k).map (·.name))) ∧ compsC 0 [] cs = compsC last ((cs.take k).map (·.name)) (cs.drop k)) (fun _ _ _ i _ => cs.length + 1 - (intOf i).toNat)
  case atStart => exact ⟨0, 0, by omega, rfl, rfl, HK1.out, HM0.out, rfl⟩
  case round =>
    clear HM0 HK1
    obtain ⟨k, last, hk, rfl, rfl, hkeep, hm, hbad⟩ := hrel
    have HK := hid hkeep; have HM := hid hm; have HB := hid hbad
    clear hkeep hm hbad
    by_cases hlt : k < cs.length
    · obtain ⟨c, hck⟩ : ∃ c, cs[k]? = some c := ⟨cs[k], by simp [hlt]⟩
      have hfp := CP.low HF.out (Low.of_keep HK.out (Nat.le_refl _) (fun _ h => h.elim))
      obtain ⟨b, off, fq, fk, rfl, hb, c0, c1, c2, _, hff⟩ := CP.at hfp hck
      have hin : (0 : Int) ≤ (k : Int) ∧ (k : Int) < (cs.length : Int) := ⟨by omega, by omega⟩
      have htk : (cs.take (k + 1)).map (·.name) = (cs.take k).map (·.name) ++ [c.name] := by rw [take_next hck, List.map_append]; rfl
      have hbd : checkC v cs = (if c.id ≤ last ∨ 24 < c.id then 1 else if nameB c.name = false ∨ memB c.name ((cs.take k).map (·.name)) = true then 4 else if fieldsC c.fs = 0 then compsC c.id ((cs.take (k + 1)).map (·.name)) (cs.drop (k + 1)) else fieldsC c.fs) := by
        rw [HCC.out, HB.out, drop_next hck, htk]; rfl
      have hfl := HL.out c (List.mem_of_getElem? hck)
      have HTK := hid htk; have HBD := hid hbd; have HFF := hid hff
      clear hck hfp htk hbd hff
      generalize (cs.take k).map (·.name) = ns at *
      obtain ⟨id, nm, fs⟩ := c
      simp only at c0 c1 c2 hfl
      have hfb := heap_alloc_new wr (.cells #[.int .i64 id, .string nm, .slice fq fs.length fk] 24)
      have hkb := HK.out.alloc (.cells #[.int .i64 id, .string nm, .slice fq fs.length fk] 24)
      have hkb1 := (Keep.refl (fun _ => False) wr).alloc (.cells #[.int .i64 id, .string nm, .slice fq fs.length fk] 24)
      have hmb := HM.out.keep (hkb1.block w0.heap.size HM.out.lt (fun h => h))
      have hff := FP.low HFF.out (Low.of_keep hkb1 HK.out.size (fun _ h => h.elim))
      have hqs := HM.out.lt
      have HFB := hid hfb; have HKB := hid hkb; have HMB := hid hmb; have HFF2 := hid hff
      clear hfb hkb hmb HK HM hkb1 hff HFF
      go_upto_region 8 with fail
      generalize wr.alloc (.cells #[.int .i64 id, .string nm, .slice fq fs.length fk] 24) = wa at *
      generalize wr.heap.size = q at *
      have d0 : wa.cell? ⟨q, 0, none⟩ = some (.int .i64 id) := cell_of HFB.out (by rfl)
      have d1 : wa.cell? ⟨q, 1, none⟩ = some (.string nm) := cell_of HFB.out (by rfl)
      clear c0 c1 c2
      by_cases i1 : id ≤ last
      · have g1 : decide (id ≤ last) = true := decide_eq_true i1
        have G3 : Hid (checkC v cs = 1) := hid (by rw [HBD.out, if_pos (.inl i1)])
        clear HBD HTK i1
        go_wp2
        go_ret
        exact ⟨by rw [G3.out]; rfl, HK0.out.trans HKB.out⟩
      have g1 : decide (id ≤ last) = false := decide_eq_false i1
      by_cases i2 : 24 < id
      · have g2 : decide (24 < id) = true := decide_eq_true i2
        have G3 : Hid (checkC v cs = 1) := hid (by rw [HBD.out, if_pos (.inr i2)])
        clear HBD HTK i1 i2
        go_wp2
        go_ret
        exact ⟨by rw [G3.out]; rfl, HK0.out.trans HKB.out⟩
      have g2 : decide (24 < id) = false := decide_eq_false i2
      have HB3 : Hid (checkC v cs = (if nameB nm = false ∨ memB nm ns = true then 4 else if fieldsC fs = 0 then compsC id ((cs.take (k + 1)).map (·.name)) (cs.drop (k + 1)) else fieldsC fs)) := hid (by rw [HBD.out]; exact if_neg (fun h => h.elim i1 i2))
      clear HBD i1 i2
      go_wp2_with fail
      refine (is_name nm _).mono ?_
      rintro r w' ⟨rfl, rfl⟩
      clear g1 g2
      cases hn : nameB nm
      · have G3 : Hid (checkC v cs = 4) := hid (by rw [HB3.out, if_pos (.inl hn)])
        clear HB3 HTK hn
        go_wp2
        go_ret
        exact ⟨by rw [G3.out]; rfl, HK0.out.trans HKB.out⟩
      have hlk := HMB.out.look (t := 108) Try.underlying9 Try.underlying108 Try.underlying4 (zero_bool _) nm (by have := nameB_size hn; unfold maxLen; omega)
      rw [seenF_mem] at hlk
      cases hs : memB nm ns
      rotate_left
      · have G3 : Hid (checkC v cs = 4) := hid (by rw [HB3.out, if_pos (.inr hs)])
        rw [hs] at hlk
        clear HB3 HTK hn hs
        go_wp2
        go_ret
        exact ⟨by rw [G3.out]; rfl, HK0.out.trans HKB.out⟩
      rw [hs] at hlk
      have HN := hid hn
      have HB4 : Hid (checkC v cs = (if fieldsC fs = 0 then compsC id ((cs.take (k + 1)).map (·.name)) (cs.drop (k + 1)) else fieldsC fs)) := hid (by rw [HB3.out, if_neg (by rw [hn, hs]; simp)])
      clear HB3 hn hs
      go_wp2_with fail
      have HMD : Hid (TS wa.drew w0.heap.size k (seenF ns)) := hid (HMB.out.keep rfl)
      have HFD : Hid (wa.drew.heap[q]? = some (.cells #[.int .i64 id, .string nm, .slice fq fs.length fk] 24 (0, 0))) := hid HFB.out
      have e0 : wa.drew.cell? ⟨q, 0, none⟩ = some (.int .i64 id) := cell_of HFD.out (by rfl)
      have e1 : wa.drew.cell? ⟨q, 1, none⟩ = some (.string nm) := cell_of HFD.out (by rfl)
      clear hlk d0 d1
      refine Plan.wp_region_pl [(false, 0, []), (false, 1, []), (false, 2, []), (false, 3, []), (false, 4, []), (true, 5, [4, 3]), (false, 6, [])] (by kernel_rfl) (by kernel_rfl) ?_
      repeat (refine Plan.pl_st rfl ?_; go_big_quiet_step (fail); refine wpQuiet_nil ?_)
      refine Plan.pl_ac rfl ?_
      have HQ3 : Hid (q ≠ w0.heap.size) := hid (by omega)
      go_wp2_with (at_mapUpdate; go_loud (refine wpList_tm_put rfl _ _ _ _ rfl Try.underlying9 Try.underlying108 Try.underlying4 HMD.out (by unfold maxLen; omega) (by rfl) nm (by have := nameB_size HN.out; unfold maxLen; omega) (by rfl) (by rfl) ?_; intro w5 hm5 hg5; rw [seenF_put, ← HTK.out] at hm5; have HM5 := hid hm5; have hk5 : Keep (fun k => some w0.heap.size = some k) wa.drew w5 := (Keep.refl _ wa.drew).grown hg5 (fun k hk => .inr hk); have HK5 := hid (keep_new HKB.out.drew hk5 (fun k e => Nat.le_of_eq (Option.some.inj e))); have HC5 : Hid (w5.heap[q]? = some (.cells #[.int .i64 id, .string nm, .slice fq fs.length fk] 24 (0, 0))) := hid (hk5.get HFD.out (fun e => HQ3.out (Option.some.inj e).symm)); have j0 : w5.cell? ⟨q, 0, none⟩ = some (.int .i64 id) := cell_of HC5.out (by rfl); have j2 : w5.cell? ⟨q, 2, none⟩ = some (.slice fq fs.length fk) := cell_of HC5.out (by rfl); have HF5 := hid (FP.low (FP.low (w' := wa.drew) HFF2.out (fun _ _ => rfl)) (Low.of_keep hk5 HKB.out.size (fun k e => Nat.le_of_eq (Option.some.inj e)))); clear hm5 hg5 hk5))
      refine Plan.plQ_mk ?_ ?_
      · repeat (refine Plan.chk_st rfl ?_ ?_; focus (go_big_quiet_step (fail); exact wpQuiet_nil rfl))
        exact Plan.chk_end
      repeat (refine Plan.pl_st rfl ?_; go_big_quiet_step (fail); refine wpQuiet_nil ?_)
      refine Plan.pl_end ?_
      have HSF := hid (sch_fields fs fq fk w5 hfl (FP.mono HF5.out (by have := HK5.out.size; omega)))
      go_wp2_with fail
      refine HSF.out.mono ?_
      rintro r w6 ⟨rfl, hk6⟩
      have HK6 := hid (HK5.out.trans hk6)
      have HM6 := hid (HM5.out.keep (hk6.block _ HM5.out.lt (fun h => h)))
      clear hk6 HSF
      generalize hz : fieldsC fs = z at *
      by_cases h0 : z = 0
      · have g1 : ((z : Int) == 0) = true := beq_iff_eq.2 (by omega)
        have g2 : (z == 0) = true := beq_iff_eq.2 h0
        have g3 : ((z : Int) != 0) = false := by rw [bne, g1]; rfl
        have g4 : (z != 0) = false := by rw [bne, g2]; rfl
        have HB5 : Hid (compsC 0 [] cs = compsC id ((cs.take (k + 1)).map (·.name)) (cs.drop (k + 1))) := hid (by rw [← HCC.out, HB4.out, if_pos h0])
        clear HB4 hz h0
        go_wp2
        go_roundw
        case rel => exact ⟨k + 1, id, by omega, by go_num, rfl, HK6.out, HM6.out, HB5.out⟩
        case measure => simp [intOf]; omega
      · have g1 : ((z : Int) == 0) = false := beq_eq_false_iff_ne.2 (by omega)
        have g2 : (z == 0) = false := beq_eq_false_iff_ne.2 h0
        have g3 : ((z : Int) != 0) = true := by rw [bne, g1]; rfl
        have g4 : (z != 0) = true := by rw [bne, g2]; rfl
        have G3 : Hid (checkC v cs = z) := hid (by rw [HB4.out, if_neg h0])
        clear HB4 hz h0
        go_wp2
        go_ret
        exact ⟨by rw [G3.out]; rfl, HK0.out.trans HK6.out⟩
    · obtain rfl : k = cs.length := by omega
      have G3 : Hid (checkC v cs = 0) := hid (by rw [HCC.out, HB.out, List.drop_length]; rfl)
      clear HB
      go_wp2
      go_ret
      exact ⟨by rw [G3.out]; rfl, HK0.out.trans HK.out⟩

end Go.Proofs.Ytjebgidddfamlaa

namespace Go.Proofs.Ytjebgidddfamlaa
open Go.ChangeShapes Go.WideShapes Go.ChangeAt Go.RowKit Go.Proofs.Heap Go.Proofs.Sch

section
variable {H : Type} {enc : TypeId × Value → H} {W : World}

/-- No weight is past what an argument may have. -/
def SZ (P : Program) (t : TypeId) (D : DataW H) : Prop := ∀ n ∈ D.weights P t, n ≤ reachBytes

theorem sz_all {P : Program} {e : TypeId} : ∀ {l : List (DataW H)} {d : DataW H}, d ∈ l → ∀ n ∈ d.weights P e, n ∈ DataW.weightsAll P e l
  | [], _, h, _, _ => by simp at h
  | x :: l, d, h, n, hn => by
    simp only [DataW.weightsAll, List.mem_append]
    rcases List.mem_cons.1 h with rfl | h
    · exact .inl hn
    · exact .inr (sz_all h n hn)
theorem SZ.elem {P : Program} {t e : TypeId} {l s : List (DataW H)} (h : SZ P t (.slice l s)) (ht : P.underlying t = some (.slice e)) {d : DataW H} (hd : d ∈ l) : SZ P e d := fun n hn => h n (by
  simp only [DataW.weights, ht, List.mem_cons, List.mem_append]
  exact .inr (.inl (sz_all hd n hn)))
theorem SZ.len {P : Program} {t e : TypeId} {l s : List (DataW H)} (h : SZ P t (.slice l s)) (ht : P.underlying t = some (.slice e)) : l.length * P.bytesOf e ≤ reachBytes := by
  have := h ((l.length + s.length) * P.bytesOf e) (by simp [DataW.weights, ht])
  rw [Nat.add_mul] at this
  omega
theorem SZ.part {P : Program} {t : TypeId} {fs : Array Field} {l : List (DataW H)} (h : SZ P t (.agg l)) (ht : P.underlying t = some (.struct fs)) {j : Nat} {u : TypeId} {d : DataW H} (hu : (fs.toList.map (·.type))[j]? = some u) (hd : l[j]? = some d) : SZ P u d := fun n hn => h n (by
  simp only [DataW.weights, ht]
  exact DataW.weights_mem_each hu hd n hn)
theorem SZ.arg {P : Program} {ts : List TypeId} {ds : List (DataW H)} (h : (DataW.weightsEach P ts ds).all (· ≤ reachBytes) = true) {j : Nat} {t : TypeId} {d : DataW H} (ht : ts[j]? = some t) (hd : ds[j]? = some d) : SZ P t d := fun n hn => by
  have := List.all_eq_true.1 h _ (DataW.weights_mem_each ht hd n hn)
  simpa using this

/-- A row of things that a law is handed. -/
theorem open_row_s {α : Type} {z : Nat} {t e : TypeId} (ht : Try.prog.underlying t = some (.slice e)) (hsz : Try.prog.cellsOf e = z) (at_ : World → Nat → Nat → α → Prop) (Q : α → Prop)
    (hel : ∀ (a : Addr) (n : Nat) (cs : List Value) (D : DataW H × List MemPlace), W.cells? 0 a z = some cs → DataW.trod enc Try.prog W 0 (fun _ => true) true n e cs = some D → SZ Try.prog e D.1 → a.spot = none ∧ a.block < W.heap.size ∧ ∃ x : α, at_ W a.block a.off x ∧ Q x)
    {fuel : Nat} {cs : List Value} {x : DataW H × List MemPlace} (h : DataW.trod enc Try.prog W 0 (fun _ => true) true fuel t cs = some x) (hx : SZ Try.prog t x.1) :
    ∃ (p : Option Addr) (c : Nat) (l : List α), cs = [.slice p l.length c] ∧ l.length ≤ c ∧ RowP z at_ W W.heap.size p l ∧ (∀ y ∈ l, Q y) ∧ l.length * Try.prog.bytesOf e ≤ reachBytes := by
  rcases Go.Deep.open_slice ht h with ⟨hcs, _⟩ | ⟨a, len, cap, m, n, D, Pl, hcs, _, hl, hm, hz', hxe, hcell⟩
  · exact ⟨none, 0, [], hcs, Nat.le_refl _, .inl rfl, fun y hy => by simp at hy, by simp⟩
  · have hmc : m = cap := by simpa using hz'
    subst hmc
    rw [hsz] at hcell
    rw [hxe] at hx
    have hlen := hx.len ht
    have hpart : ∀ i, i < len → SZ Try.prog e (D i) := fun i hi => hx.elem ht (List.mem_map.2 ⟨i, List.mem_range.2 hi, rfl⟩)
    simp only [List.length_map, List.length_range] at hlen
    by_cases hl0 : len = 0
    · subst hl0
      exact ⟨some a, m, [], hcs, Nat.zero_le _, .inl rfl, fun y hy => by simp at hy, by simp⟩
    · obtain ⟨b, off, spot⟩ := a
      have hblk : spot = none ∧ b < W.heap.size := by
        obtain ⟨cs', hc1, hc2⟩ := hcell 0 (by omega)
        obtain ⟨h1, h2, _⟩ := hel _ _ _ _ hc1 hc2 (hpart 0 (by omega))
        refine ⟨?_, by simpa [Addr.add] using h2⟩
        simpa [Addr.add] using h1
      obtain ⟨rfl, hb⟩ := hblk
      have key : ∀ k, k ≤ len → ∃ l : List α, l.length = k ∧ (∀ i y, l[i]? = some y → at_ W b (off + i * z) y) ∧ ∀ y ∈ l, Q y := by
        intro k
        induction k with
        | zero => exact fun _ => ⟨[], rfl, fun i y hy => by simp at hy, fun y hy => by simp at hy⟩
        | succ k ih =>
          intro hk
          obtain ⟨l, hll, hla, hlq⟩ := ih (by omega)
          obtain ⟨cs', hc1, hc2⟩ := hcell k (by omega)
          obtain ⟨_, _, y, hy, hq⟩ := hel _ _ _ _ hc1 hc2 (hpart k (by omega))
          rw [addr_add] at hy
          refine ⟨l ++ [y], by simp [hll], fun i u hu => ?_, fun u hu => ?_⟩
          · by_cases hik : i < k
            · rw [List.getElem?_append_left (by omega)] at hu
              exact hla i u hu
            · rw [List.getElem?_append_right (by omega)] at hu
              have : i = k := by
                have := (List.getElem?_eq_some_iff.1 hu).1
                simp at this
                omega
              subst this
              simp [hll] at hu
              subst hu
              exact hy
          · rcases List.mem_append.1 hu with hu | hu
            · exact hlq u hu
            · rw [List.mem_singleton.1 hu]; exact hq
      obtain ⟨l, hll, hla, hlq⟩ := key len (Nat.le_refl _)
      subst hll
      exact ⟨_, m, l, hcs, hl, .inr ⟨b, off, rfl, hb, hla⟩, hlq, hlen⟩

theorem bytes_field : Try.prog.bytesOf 27 = 32 := by kernel_rfl
theorem bytes_comp : Try.prog.bytesOf 24 = 48 := by kernel_rfl
theorem reach_eq : reachBytes = 140737488351232 := rfl

set_option maxRecDepth 100000 in
theorem open_fields_s {fuel : Nat} {cs : List Value} {x : DataW H × List MemPlace} (h : DataW.trod enc Try.prog W 0 (fun _ => true) true fuel 22 cs = some x) (hx : SZ Try.prog 22 x.1) :
    ∃ (p : Option Addr) (c : Nat) (l : List Fld), cs = [.slice p l.length c] ∧ l.length ≤ c ∧ FP W W.heap.size p l ∧ l.length ≤ 4398046510976 := by
  obtain ⟨p, c, l, h1, h2, h3, _, h4⟩ := open_row_s Try.underlying22 (by kernel_rfl) FldAt (fun _ => True) (fun a n cs D hc h _ => by obtain ⟨a1, a2, x, a3⟩ := open_field a n cs D hc h; exact ⟨a1, a2, x, a3, trivial⟩) h hx
  rw [bytes_field, reach_eq] at h4
  exact ⟨p, c, l, h1, h2, h3, by omega⟩

def CmpS (c : Cmp) : Prop := c.fs.length ≤ 4398046510976
set_option maxRecDepth 100000 in
theorem open_comp_s (a : Addr) (n : Nat) (cs : List Value) (D : DataW H × List MemPlace) (hc : W.cells? 0 a 3 = some cs) (h : DataW.trod enc Try.prog W 0 (fun _ => true) true n 24 cs = some D) (hx : SZ Try.prog 24 D.1) :
    a.spot = none ∧ a.block < W.heap.size ∧ ∃ x : Cmp, CmpAt W.heap.size W a.block a.off x ∧ CmpS x := by
  have hs_int : Try.prog.cellsOf 3 = 1 := by kernel_rfl
  have hs_string : Try.prog.cellsOf 9 = 1 := by kernel_rfl
  have hs_fields : Try.prog.cellsOf 22 = 1 := by kernel_rfl
  obtain ⟨_, hlen, hat⟩ := World.cells?_some hc
  obtain ⟨y0, y1, y2, n', hD, _, t0, t1, t2⟩ := Go.Deep.trod_struct3 Try.underlying24 h
  rw [hD] at hx
  have hx2 : SZ Try.prog 22 y2.1 := hx.part Try.underlying24 (j := 2) rfl rfl
  match cs, hlen with
  | [u0, u1, u2], _ =>
    have g0 := hat 0 (by omega)
    have g1 := hat 1 (by omega)
    have g2 := hat 2 (by omega)
    simp only [hs_int, hs_string, hs_fields, List.drop, List.take] at t0 t1 t2
    obtain ⟨K0, eK0, _, _⟩ := DataW.trod_int Try.underlying3 t0
    obtain ⟨K1, eK1, _, _⟩ := DataW.trod_string Try.underlying9 t1
    obtain ⟨p, c, l, eK2, hlc, hfp, hll⟩ := open_fields_s t2 hx2
    simp at eK0 eK1 eK2
    subst eK0; subst eK1; subst eK2
    obtain ⟨h1, h2⟩ := spot_of g0
    obtain ⟨b, off, spot⟩ := a
    simp only at h1 h2
    subst h1
    rw [addr_add] at g0 g1 g2
    exact ⟨rfl, h2, ⟨K0, K1, l⟩, ⟨g0, g1, p, c, g2, hlc, hfp⟩, hll⟩

set_option maxRecDepth 100000 in
/-- A schema that a law is handed. -/
theorem open_schema_s {v : Value} {r : Reach} {b : Nat} (hv : Value.okWide Try.prog W r b 46 v) {fuel : Nat} {x : DataW H × List MemPlace} (h : DataW.trod enc Try.prog W 0 (fun _ => true) true fuel 46 v.cells.toList = some x) (hx : SZ Try.prog 46 x.1) :
    ∃ (k : Int) (p : Option Addr) (c : Nat) (l : List Cmp), v = .agg #[.int .i64 k, .slice p l.length c] ∧ l.length ≤ c ∧ CP W W.heap.size p l ∧ Small l := by
  have hs_int : Try.prog.cellsOf 3 = 1 := by kernel_rfl
  have hs_comps : Try.prog.cellsOf 44 = 1 := by kernel_rfl
  have hs : Try.prog.cellsOf 46 = 2 := by kernel_rfl
  unfold Value.okWide at hv
  rw [Try.underlying46] at hv
  obtain ⟨cs, rfl, hsz, _⟩ := hv
  rw [hs] at hsz
  obtain ⟨⟨u0, u1, rfl⟩⟩ : Nonempty (∃ u0 u1, cs = #[u0, u1]) := by
    obtain ⟨l⟩ := cs
    match l, hsz with
    | [u0, u1], _ => exact ⟨u0, u1, rfl⟩
  obtain ⟨y0, y1, n', hD, _, t0, t1⟩ := trod_struct2 Try.underlying46 h
  rw [hD] at hx
  have hx1 : SZ Try.prog 44 y1.1 := hx.part Try.underlying46 (j := 1) rfl rfl
  simp only [Value.cells, hs_int, hs_comps, List.drop, List.take] at t0 t1
  obtain ⟨K0, eK0, _, _⟩ := DataW.trod_int Try.underlying3 t0
  obtain ⟨p, c, l, eK1, hlc, hcp, hq, hb⟩ := open_row_s Try.underlying44 (by kernel_rfl) (CmpAt W.heap.size) CmpS (fun a n cs D hc h hx => open_comp_s a n cs D hc h hx) t1 hx1
  simp at eK0 eK1
  subst eK0; subst eK1
  rw [bytes_comp, reach_eq] at hb
  exact ⟨K0, p, c, l, rfl, hlc, hcp, ⟨by omega, fun y hy => by have : y.fs.length ≤ 4398046510976 := hq y hy; omega⟩⟩
end
end Go.Proofs.Ytjebgidddfamlaa

namespace Go.Proofs.Ytjebgidddfamlaa
open Go.ChangeShapes Go.WideShapes Go.ChangeAt Go.RowKit Go.Proofs.Heap Go.Proofs.Sch Go.Proofs.Wide

section
variable {H : Type} {enc : TypeId × Value → H} {W : World}

def IntFit (w : World) (b o : Nat) (x : WI) : Prop := IntAt w b o x ∧ x.fit

set_option maxRecDepth 100000 in
theorem open_wide (a : Addr) (n : Nat) (cs : List Value) (D : DataW H × List MemPlace) (hc : W.cells? 0 a 3 = some cs) (h : DataW.trod enc Try.prog W 0 (fun _ => true) true n 38 cs = some D) :
    a.spot = none ∧ a.block < W.heap.size ∧ ∃ x : WI, IntFit W a.block a.off x := by
  have hs_bool : Try.prog.cellsOf 4 = 1 := by kernel_rfl
  have hs_u64 : Try.prog.cellsOf 36 = 1 := by kernel_rfl
  obtain ⟨_, hlen, hat⟩ := World.cells?_some hc
  obtain ⟨y0, y1, y2, n', _, _, t0, t1, t2⟩ := Go.Deep.trod_struct3 Try.underlying38 h
  match cs, hlen with
  | [u0, u1, u2], _ =>
    have g0 := hat 0 (by omega)
    have g1 := hat 1 (by omega)
    have g2 := hat 2 (by omega)
    simp only [hs_bool, hs_u64, List.drop, List.take] at t0 t1 t2
    obtain ⟨K0, eK0, _⟩ := DataW.trod_bool Try.underlying4 t0
    obtain ⟨K1, eK1, _, w1⟩ := DataW.trod_int Try.underlying36 t1
    obtain ⟨K2, eK2, _, w2⟩ := DataW.trod_int Try.underlying36 t2
    simp at eK0 eK1 eK2
    subst eK0; subst eK1; subst eK2
    have b1 := u64_wf w1
    have b2 := u64_wf w2
    obtain ⟨N1, rfl⟩ := Int.eq_ofNat_of_zero_le b1.1
    obtain ⟨N2, rfl⟩ := Int.eq_ofNat_of_zero_le b2.1
    obtain ⟨h1, h2⟩ := spot_of g0
    obtain ⟨b, off, spot⟩ := a
    simp only at h1 h2
    subst h1
    rw [addr_add] at g0 g1 g2
    exact ⟨rfl, h2, ⟨K0, N1, N2⟩, ⟨g0, g1, g2⟩, by unfold WI.fit; simp only; omega⟩

theorem open_wides {fuel : Nat} {cs : List Value} {x : DataW H × List MemPlace} (h : DataW.trod enc Try.prog W 0 (fun _ => true) true fuel 35 cs = some x) :
    ∃ (p : Option Addr) (c : Nat) (l : List WI), cs = [.slice p l.length c] ∧ l.length ≤ c ∧ XP W W.heap.size p l ∧ ∀ y ∈ l, y.fit := by
  obtain ⟨p, c, l, h1, h2, h3⟩ := open_row Try.underlying35 (by kernel_rfl) IntFit (fun a n cs D hc h => open_wide a n cs D hc h) h
  refine ⟨p, c, l, h1, h2, RowP.imp h3 (Nat.le_refl _) (fun _ _ _ _ h => h.1), fun y hy => ?_⟩
  rcases h3 with rfl | ⟨b, off, _, _, hc⟩
  · cases hy
  · obtain ⟨i, hi⟩ := List.getElem?_of_mem hy
    exact (hc i y hi).2

end
end Go.Proofs.Ytjebgidddfamlaa

namespace Go.Proofs.Ytjebgidddfamlaa
open Go.ChangeShapes Go.WideShapes Go.ChangeAt Go.RowKit Go.Proofs.Heap Go.Proofs.Sch Go.Proofs.Wide

section
variable {H : Type} {enc : TypeId × Value → H} {W : World}

theorem nil_cap {t e : TypeId} (ht : Try.prog.underlying t = some (.slice e)) {fuel : Nat} {p : Option Addr} {n c : Nat} {x : DataW H × List MemPlace} (h : DataW.trod enc Try.prog W 0 (fun _ => true) true fuel t [.slice p n c] = some x) : p = none → c = 0 := by
  intro hp
  subst hp
  rcases Go.Deep.open_slice ht h with ⟨hcs, _⟩ | ⟨a, len, cap, m, n, D, Pl, hcs, _⟩
  · simp at hcs; exact hcs.2
  · simp at hcs
set_option maxRecDepth 100000 in
/-- A field that a law is handed. -/
theorem open_field_of {v : Value} {r : Reach} {b : Nat} (hv : Value.okWide Try.prog W r b 27 v) {fuel : Nat} {x : DataW H × List MemPlace} (h : DataW.trod enc Try.prog W 0 (fun _ => true) true fuel 27 v.cells.toList = some x) :
    ∃ f : Fld, v = .agg #[.string f.name, .int .i64 f.kind, .int .i64 f.count] := by
  have hs_int : Try.prog.cellsOf 3 = 1 := by kernel_rfl
  have hs_string : Try.prog.cellsOf 9 = 1 := by kernel_rfl
  have hs_kind : Try.prog.cellsOf 25 = 1 := by kernel_rfl
  have hs : Try.prog.cellsOf 27 = 3 := by kernel_rfl
  unfold Value.okWide at hv
  rw [Try.underlying27] at hv
  obtain ⟨cs, rfl, hsz, _⟩ := hv
  rw [hs] at hsz
  obtain ⟨⟨u0, u1, u2, rfl⟩⟩ : Nonempty (∃ u0 u1 u2, cs = #[u0, u1, u2]) := by
    obtain ⟨l⟩ := cs
    match l, hsz with
    | [u0, u1, u2], _ => exact ⟨u0, u1, u2, rfl⟩
  obtain ⟨y0, y1, y2, n', _, _, t0, t1, t2⟩ := Go.Deep.trod_struct3 Try.underlying27 h
  simp only [Value.cells, hs_int, hs_string, hs_kind, List.drop, List.take] at t0 t1 t2
  obtain ⟨K0, eK0, _, _⟩ := DataW.trod_string Try.underlying9 t0
  obtain ⟨K1, eK1, _, _⟩ := DataW.trod_int Try.underlying25 t1
  obtain ⟨K2, eK2, _, _⟩ := DataW.trod_int Try.underlying3 t2
  simp at eK0 eK1 eK2
  subst eK0; subst eK1; subst eK2
  exact ⟨⟨K0, K1, K2⟩, rfl⟩
set_option maxRecDepth 100000 in
/-- A great number that a law is handed. -/
theorem open_wide_of {v : Value} {r : Reach} {b : Nat} (hv : Value.okWide Try.prog W r b 38 v) {fuel : Nat} {x : DataW H × List MemPlace} (h : DataW.trod enc Try.prog W 0 (fun _ => true) true fuel 38 v.cells.toList = some x) :
    ∃ y : WI, v = .agg #[.bool y.neg, .int .u64 (y.hi : Int), .int .u64 (y.lo : Int)] ∧ y.fit := by
  have hs_bool : Try.prog.cellsOf 4 = 1 := by kernel_rfl
  have hs_u64 : Try.prog.cellsOf 36 = 1 := by kernel_rfl
  have hs : Try.prog.cellsOf 38 = 3 := by kernel_rfl
  unfold Value.okWide at hv
  rw [Try.underlying38] at hv
  obtain ⟨cs, rfl, hsz, _⟩ := hv
  rw [hs] at hsz
  obtain ⟨⟨u0, u1, u2, rfl⟩⟩ : Nonempty (∃ u0 u1 u2, cs = #[u0, u1, u2]) := by
    obtain ⟨l⟩ := cs
    match l, hsz with
    | [u0, u1, u2], _ => exact ⟨u0, u1, u2, rfl⟩
  obtain ⟨y0, y1, y2, n', _, _, t0, t1, t2⟩ := Go.Deep.trod_struct3 Try.underlying38 h
  simp only [Value.cells, hs_bool, hs_u64, List.drop, List.take] at t0 t1 t2
  obtain ⟨K0, eK0, _⟩ := DataW.trod_bool Try.underlying4 t0
  obtain ⟨K1, eK1, _, w1⟩ := DataW.trod_int Try.underlying36 t1
  obtain ⟨K2, eK2, _, w2⟩ := DataW.trod_int Try.underlying36 t2
  simp at eK0 eK1 eK2
  subst eK0; subst eK1; subst eK2
  have b1 := u64_wf w1
  have b2 := u64_wf w2
  obtain ⟨N1, rfl⟩ := Int.eq_ofNat_of_zero_le b1.1
  obtain ⟨N2, rfl⟩ := Int.eq_ofNat_of_zero_le b2.1
  exact ⟨⟨K0, N1, N2⟩, rfl, by unfold WI.fit; simp only; omega⟩
end
end Go.Proofs.Ytjebgidddfamlaa

namespace Go.Proofs.Ytjebgidddfamlaa
open Go.RowKit Go.Proofs.Heap Go.Proofs.Sch Go.Proofs.Wide

abbrev InV (x : Ins) : Value := .agg #[.int .i64 x.op, .int .i64 x.a, .int .i64 x.b, .bool x.k.neg, .int .u64 (x.k.hi : Int), .int .u64 (x.k.lo : Int)]
abbrev InC (x : Ins) : Array Value := #[.int .i64 x.op, .int .i64 x.a, .int .i64 x.b, .bool x.k.neg, .int .u64 (x.k.hi : Int), .int .u64 (x.k.lo : Int)]
/-- Whether an instruction can be. -/
def insB (x : Ins) : Bool := decide (1 ≤ x.op ∧ x.op ≤ 17) && (x.k.form && decide (0 ≤ x.a ∧ 0 ≤ x.b ∧ x.a < 8 ∧ x.b < 8))
/-- How many numbers an instruction takes. -/
def argsN (op : Int) : Nat := if op = 1 ∨ op = 2 ∨ op = 3 ∨ op = 4 then 0 else if op = 10 ∨ op = 15 then 1 else if op = 16 then 3 else 2

set_option maxRecDepth 20000 in
set_option maxHeartbeats 4000000 in
theorem is_ins (x : Ins) (hx : x.k.fit) (w : World) : Calls Try.prog 23 #[InV x] w fun r w' => r = .returned (.bool (insB x)) ∧ Keep (fun _ => False) w w' := by
  obtain ⟨op, a, b, ⟨kn, kh, kl⟩⟩ := x
  have HB := hid (heap_alloc_new w (.cells #[.int .i64 op, .int .i64 a, .int .i64 b, .bool kn, .int .u64 (kh : Int), .int .u64 (kl : Int)] 40))
  have HK := hid ((Keep.refl (fun _ => False) w).alloc (.cells #[.int .i64 op, .int .i64 a, .int .i64 b, .bool kn, .int .u64 (kh : Int), .int .u64 (kl : Int)] 40))
  have HX := hid hx
  have hib : insB ⟨op, a, b, ⟨kn, kh, kl⟩⟩ = (decide (1 ≤ op ∧ op ≤ 17) && (WI.form ⟨kn, kh, kl⟩ && decide (0 ≤ a ∧ 0 ≤ b ∧ a < 8 ∧ b < 8))) := rfl
  have HI := hid hib
  clear hib hx
  go_enter Try.func23, Try.ntmps23
  go_upto_region 1 with fail
  generalize w.alloc (.cells #[.int .i64 op, .int .i64 a, .int .i64 b, .bool kn, .int .u64 (kh : Int), .int .u64 (kl : Int)] 40) = w1 at *
  generalize w.heap.size = sb at *
  have HW : Hid (∀ wy, Keep (fun _ => False) w1 wy → wy.cell? ⟨sb, 0, none⟩ = some (.int .i64 op) ∧ wy.cell? ⟨sb, 1, none⟩ = some (.int .i64 a) ∧ wy.cell? ⟨sb, 2, none⟩ = some (.int .i64 b) ∧ wy.cell? ⟨sb, 3, none⟩ = some (.bool kn) ∧ wy.cell? ⟨sb, 4, none⟩ = some (.int .u64 (kh : Int)) ∧ wy.cell? ⟨sb, 5, none⟩ = some (.int .u64 (kl : Int))) := hid (fun wy hk =>
    ⟨cell_of (hk.get HB.out id) (by rfl), cell_of (hk.get HB.out id) (by rfl), cell_of (hk.get HB.out id) (by rfl), cell_of (hk.get HB.out id) (by rfl), cell_of (hk.get HB.out id) (by rfl), cell_of (hk.get HB.out id) (by rfl)⟩)
  obtain ⟨s0, s1, s2, s3, s4, s5⟩ := HW.out _ (Keep.refl _ _)
  by_cases h1 : 1 ≤ op
  rotate_left
  · have g1 : decide (1 ≤ op) = false := decide_eq_false h1
    have G : Hid (decide (1 ≤ op ∧ op ≤ 17) = false) := hid (decide_eq_false (fun h => h1 h.1))
    go_wp2
    go_ret
    exact ⟨by rw [HI.out, G.out]; rfl, HK.out⟩
  have g1 : decide (1 ≤ op) = true := decide_eq_true h1
  by_cases h2 : op ≤ 17
  rotate_left
  · have g2 : decide (op ≤ 17) = false := decide_eq_false h2
    have G : Hid (decide (1 ≤ op ∧ op ≤ 17) = false) := hid (decide_eq_false (fun h => h2 h.2))
    go_wp2
    go_ret
    exact ⟨by rw [HI.out, G.out]; rfl, HK.out⟩
  have g2 : decide (op ≤ 17) = true := decide_eq_true h2
  have GO : Hid (decide (1 ≤ op ∧ op ≤ 17) = true) := hid (decide_eq_true ⟨h1, h2⟩)
  go_wp2_with fail
  refine (w_form ⟨kn, kh, kl⟩ HX.out _).mono ?_
  rintro r w2 ⟨rfl, hk2⟩
  have HK2 := hid hk2
  clear hk2 s0 s1 s2 s3 s4 s5 g1 g2 h1 h2
  cases hfm : WI.form ⟨kn, kh, kl⟩
  · have HFM := hid hfm
    clear hfm
    go_wp2
    go_ret
    exact ⟨by rw [HI.out, HFM.out, GO.out]; rfl, HK.out.trans HK2.out⟩
  have HFM := hid hfm
  clear hfm
  obtain ⟨s0, s1, s2, s3, s4, s5⟩ := HW.out _ HK2.out
  rcases Int.lt_trichotomy a b with hab | hab | hab
  · have hle : a ≤ b := by omega
    have hnb : ¬ b < a := by omega
    have hnl : ¬ b ≤ a := by omega
    by_cases hlo : 0 ≤ a
    · have q1 : decide (0 ≤ a) = true := decide_eq_true hlo
      by_cases hhi : b < 8
      · have q2 : decide (b < 8) = true := decide_eq_true hhi
        have G : Hid (decide (0 ≤ a ∧ 0 ≤ b ∧ a < 8 ∧ b < 8) = true) := hid (decide_eq_true (by omega))
        go_wp2
        go_ret
        exact ⟨by rw [HI.out, HFM.out, GO.out, G.out]; rfl, HK.out.trans HK2.out⟩
      · have q2 : decide (b < 8) = false := decide_eq_false hhi
        have G : Hid (decide (0 ≤ a ∧ 0 ≤ b ∧ a < 8 ∧ b < 8) = false) := hid (decide_eq_false (by omega))
        go_wp2
        go_ret
        exact ⟨by rw [HI.out, HFM.out, GO.out, G.out]; rfl, HK.out.trans HK2.out⟩
    · have q1 : decide (0 ≤ a) = false := decide_eq_false hlo
      have G : Hid (decide (0 ≤ a ∧ 0 ≤ b ∧ a < 8 ∧ b < 8) = false) := hid (decide_eq_false (by omega))
      go_wp2
      go_ret
      exact ⟨by rw [HI.out, HFM.out, GO.out, G.out]; rfl, HK.out.trans HK2.out⟩
  · subst hab
    have hle : a ≤ a := Int.le_refl _
    have hnb : ¬ a < a := by omega
    by_cases hlo : 0 ≤ a
    · have q1 : decide (0 ≤ a) = true := decide_eq_true hlo
      by_cases hhi : a < 8
      · have q2 : decide (a < 8) = true := decide_eq_true hhi
        have G : Hid (decide (0 ≤ a ∧ 0 ≤ a ∧ a < 8 ∧ a < 8) = true) := hid (decide_eq_true (by omega))
        go_wp2
        go_ret
        exact ⟨by rw [HI.out, HFM.out, GO.out, G.out]; rfl, HK.out.trans HK2.out⟩
      · have q2 : decide (a < 8) = false := decide_eq_false hhi
        have G : Hid (decide (0 ≤ a ∧ 0 ≤ a ∧ a < 8 ∧ a < 8) = false) := hid (decide_eq_false (by omega))
        go_wp2
        go_ret
        exact ⟨by rw [HI.out, HFM.out, GO.out, G.out]; rfl, HK.out.trans HK2.out⟩
    · have q1 : decide (0 ≤ a) = false := decide_eq_false hlo
      have G : Hid (decide (0 ≤ a ∧ 0 ≤ a ∧ a < 8 ∧ a < 8) = false) := hid (decide_eq_false (by omega))
      go_wp2
      go_ret
      exact ⟨by rw [HI.out, HFM.out, GO.out, G.out]; rfl, HK.out.trans HK2.out⟩
  · have hle : b ≤ a := by omega
    have hnb : ¬ a < b := by omega
    have hnl : ¬ a ≤ b := by omega
    by_cases hlo : 0 ≤ b
    · have q1 : decide (0 ≤ b) = true := decide_eq_true hlo
      by_cases hhi : a < 8
      · have q2 : decide (a < 8) = true := decide_eq_true hhi
        have G : Hid (decide (0 ≤ a ∧ 0 ≤ b ∧ a < 8 ∧ b < 8) = true) := hid (decide_eq_true (by omega))
        go_wp2
        go_ret
        exact ⟨by rw [HI.out, HFM.out, GO.out, G.out]; rfl, HK.out.trans HK2.out⟩
      · have q2 : decide (a < 8) = false := decide_eq_false hhi
        have G : Hid (decide (0 ≤ a ∧ 0 ≤ b ∧ a < 8 ∧ b < 8) = false) := hid (decide_eq_false (by omega))
        go_wp2
        go_ret
        exact ⟨by rw [HI.out, HFM.out, GO.out, G.out]; rfl, HK.out.trans HK2.out⟩
    · have q1 : decide (0 ≤ b) = false := decide_eq_false hlo
      have G : Hid (decide (0 ≤ a ∧ 0 ≤ b ∧ a < 8 ∧ b < 8) = false) := hid (decide_eq_false (by omega))
      go_wp2
      go_ret
      exact ⟨by rw [HI.out, HFM.out, GO.out, G.out]; rfl, HK.out.trans HK2.out⟩

set_option maxRecDepth 20000 in
set_option maxHeartbeats 4000000 in
theorem args_of (x : Ins) (w : World) : Calls Try.prog 15 #[InV x] w fun r w' => r = .returned (.int .i64 (argsN x.op : Int)) ∧ Keep (fun _ => False) w w' := by
  obtain ⟨op, a, b, ⟨kn, kh, kl⟩⟩ := x
  have HB := hid (heap_alloc_new w (.cells #[.int .i64 op, .int .i64 a, .int .i64 b, .bool kn, .int .u64 (kh : Int), .int .u64 (kl : Int)] 40))
  have HK := hid ((Keep.refl (fun _ => False) w).alloc (.cells #[.int .i64 op, .int .i64 a, .int .i64 b, .bool kn, .int .u64 (kh : Int), .int .u64 (kl : Int)] 40))
  simp only
  go_enter Try.func15, Try.ntmps15
  go_upto_region 1 with fail
  generalize w.alloc (.cells #[.int .i64 op, .int .i64 a, .int .i64 b, .bool kn, .int .u64 (kh : Int), .int .u64 (kl : Int)] 40) = w1 at *
  generalize w.heap.size = sb at *
  have s0 : w1.cell? ⟨sb, 0, none⟩ = some (.int .i64 op) := cell_of HB.out (by rfl)
  by_cases h1 : op = 1
  · subst h1; go_wp2; go_ret; exact ⟨rfl, HK.out⟩
  by_cases h2 : op = 2
  · subst h2; go_wp2; go_ret; exact ⟨rfl, HK.out⟩
  by_cases h3 : op = 3
  · subst h3; go_wp2; go_ret; exact ⟨rfl, HK.out⟩
  by_cases h4 : op = 4
  · subst h4; go_wp2; go_ret; exact ⟨rfl, HK.out⟩
  by_cases h10 : op = 10
  · subst h10; go_wp2; go_ret; exact ⟨rfl, HK.out⟩
  by_cases h15 : op = 15
  · subst h15; go_wp2; go_ret; exact ⟨rfl, HK.out⟩
  by_cases h16 : op = 16
  · subst h16; go_wp2; go_ret; exact ⟨rfl, HK.out⟩
  have g1 : (op == 1) = false := beq_eq_false_iff_ne.2 h1
  have g2 : (op == 2) = false := beq_eq_false_iff_ne.2 h2
  have g3 : (op == 3) = false := beq_eq_false_iff_ne.2 h3
  have g4 : (op == 4) = false := beq_eq_false_iff_ne.2 h4
  have g10 : (op == 10) = false := beq_eq_false_iff_ne.2 h10
  have g15 : (op == 15) = false := beq_eq_false_iff_ne.2 h15
  have g16 : (op == 16) = false := beq_eq_false_iff_ne.2 h16
  have G : Hid (argsN op = 2) := hid (by unfold argsN; rw [if_neg (by omega), if_neg (by omega), if_neg h16])
  clear h1 h2 h3 h4 h10 h15 h16
  go_wp2
  go_ret
  exact ⟨by rw [G.out]; rfl, HK.out⟩
end Go.Proofs.Ytjebgidddfamlaa

namespace Go.Proofs.Ytjebgidddfamlaa
open Go.RowKit Go.Proofs.Heap Go.Proofs.Sch Go.Proofs.Wide

/-- The error of the instructions that are left, n numbers being there. -/
def exprRun : Nat → List Ins → Nat
  | n, [] => if n = 1 then 0 else 4
  | n, x :: r => if insB x = false ∨ n < argsN x.op then 4 else if 16 < n - argsN x.op + 1 then 4 else exprRun (n - argsN x.op + 1) r
/-- The error of a formula. -/
def exprC (code : List Ins) : Nat := if 64 < code.length then 5 else exprRun 0 code
theorem exprRun_cons (n : Nat) (x : Ins) (r : List Ins) : exprRun n (x :: r) = if insB x = false ∨ n < argsN x.op then 4 else if 16 < n - argsN x.op + 1 then 4 else exprRun (n - argsN x.op + 1) r := rfl
theorem argsN_le (op : Int) : argsN op ≤ 3 := by
  unfold argsN
  repeat' split
  all_goals omega

set_option maxRecDepth 20000 in
set_option maxHeartbeats 4000000 in
theorem expr_check (code : List Ins) (p : Option Addr) (cap : Nat) (w : World) (hfit : ∀ x ∈ code, x.k.fit) (hf : IP w w.heap.size p code) :
    Calls Try.prog 10 #[.slice p code.length cap] w fun r w' => r = .returned (iV (exprC code)) ∧ Keep (fun _ => False) w w' := by
  have HF := hid hf; have HX := hid hfit
  clear hf hfit
  go_enter Try.func10, Try.ntmps10
  by_cases hl : 64 < code.length
  · have g1 : decide ((64 : Int) < (code.length : Int)) = true := decide_eq_true (by omega)
    have g2 : decide (64 < code.length) = true := decide_eq_true hl
    have G : Hid (exprC code = 5) := hid (by unfold exprC; rw [if_pos hl])
    go_wp2
    go_ret
    exact ⟨by rw [G.out]; rfl, Keep.refl _ _⟩
  have g1 : decide ((64 : Int) < (code.length : Int)) = false := decide_eq_false (by omega)
  have g2 : decide (64 < code.length) = false := decide_eq_false hl
  have HE : Hid (exprC code = exprRun 0 code) := hid (by unfold exprC; rw [if_neg hl])
  go_wp2_with fail
  clear g1 g2
  go_loopw [3, 5, 11] (fun n _ i wr => ∃ k m : Nat, k ≤ code.length ∧ i = iV k ∧ n = iV m ∧ m ≤ 16 ∧ exprC code = exprRun m (code.drop k) ∧ Keep (fun _ => False) w wr) (fun _ _ i _ => code.length + 1 - (intOf i).toNat)
  case atStart => exact ⟨0, 0, Nat.zero_le _, rfl, rfl, by omega, HE.out, Keep.refl _ _⟩
  case round =>
    clear HE
    obtain ⟨k, m, hk, rfl, rfl, hm16, heq, hkr⟩ := hrel
    have HEQ := hid heq; have HKR := hid hkr
    clear heq hkr
    by_cases hlt : k < code.length
    · obtain ⟨x, hxk⟩ : ∃ x, code[k]? = some x := ⟨code[k], by simp [hlt]⟩
      have HEX := hid (show exprC code = if insB x = false ∨ m < argsN x.op then 4 else if 16 < m - argsN x.op + 1 then 4 else exprRun (m - argsN x.op + 1) (code.drop (k + 1)) by
        rw [HEQ.out, drop_next hxk, exprRun_cons])
      have HXF := hid (HX.out x (List.mem_of_getElem? hxk))
      have han := argsN_le x.op
      obtain ⟨b, off, rfl, hb, c0, c1, c2, c3, c4, c5⟩ := IP.at (IP.low HF.out (Low.keep0 HKR.out)) hxk
      have hin : (0 : Int) ≤ (k : Int) ∧ (k : Int) < (code.length : Int) := ⟨by omega, by omega⟩
      clear hxk hb HEQ
      obtain ⟨op, xa, xb, ⟨kn, kh, kl⟩⟩ := x
      simp only at c0 c1 c2 c3 c4 c5 HEX HXF han
      have HBX := hid (heap_alloc_new wr (.cells #[.int .i64 op, .int .i64 xa, .int .i64 xb, .bool kn, .int .u64 (kh : Int), .int .u64 (kl : Int)] 40))
      have HK1 := hid (HKR.out.alloc (.cells #[.int .i64 op, .int .i64 xa, .int .i64 xb, .bool kn, .int .u64 (kh : Int), .int .u64 (kl : Int)] 40))
      go_upto_region 7 with fail
      generalize wr.alloc (.cells #[.int .i64 op, .int .i64 xa, .int .i64 xb, .bool kn, .int .u64 (kh : Int), .int .u64 (kl : Int)] 40) = w1 at *
      generalize wr.heap.size = sb at *
      clear c0 c1 c2 c3 c4 c5
      have HW : Hid (∀ wy, Keep (fun _ => False) w1 wy → wy.cell? ⟨sb, 0, none⟩ = some (.int .i64 op) ∧ wy.cell? ⟨sb, 1, none⟩ = some (.int .i64 xa) ∧ wy.cell? ⟨sb, 2, none⟩ = some (.int .i64 xb) ∧ wy.cell? ⟨sb, 3, none⟩ = some (.bool kn) ∧ wy.cell? ⟨sb, 4, none⟩ = some (.int .u64 (kh : Int)) ∧ wy.cell? ⟨sb, 5, none⟩ = some (.int .u64 (kl : Int))) := hid (fun wy hk =>
        ⟨cell_of (hk.get HBX.out id) (by rfl), cell_of (hk.get HBX.out id) (by rfl), cell_of (hk.get HBX.out id) (by rfl), cell_of (hk.get HBX.out id) (by rfl), cell_of (hk.get HBX.out id) (by rfl), cell_of (hk.get HBX.out id) (by rfl)⟩)
      obtain ⟨s0, s1, s2, s3, s4, s5⟩ := HW.out _ (Keep.refl _ _)
      go_wp2_with fail
      refine (is_ins ⟨op, xa, xb, ⟨kn, kh, kl⟩⟩ HXF.out _).mono ?_
      rintro r w2 ⟨rfl, hk2⟩
      have HK2 := hid hk2
      clear hk2 s0 s1 s2 s3 s4 s5
      cases hib : insB ⟨op, xa, xb, ⟨kn, kh, kl⟩⟩
      · have G : Hid (exprC code = 4) := hid (by rw [HEX.out, if_pos (.inl hib)])
        clear hib
        go_wp2
        go_ret
        exact ⟨by rw [G.out]; rfl, HK1.out.trans HK2.out⟩
      have HIB := hid hib
      clear hib
      obtain ⟨s0, s1, s2, s3, s4, s5⟩ := HW.out _ HK2.out
      go_wp2_with fail
      refine (args_of ⟨op, xa, xb, ⟨kn, kh, kl⟩⟩ _).mono ?_
      rintro r w3 ⟨rfl, hk3⟩
      have HK3 := hid (HK2.out.trans hk3)
      clear hk3 s0 s1 s2 s3 s4 s5
      generalize hga : argsN op = ar at *
      have HGA := hid hga
      clear hga
      by_cases hma : m < ar
      · have g1 : decide ((m : Int) < (ar : Int)) = true := decide_eq_true (by omega)
        have g2 : decide (m < ar) = true := decide_eq_true hma
        have G : Hid (exprC code = 4) := hid (by rw [HEX.out, if_pos (.inr hma)])
        go_wp2
        go_ret
        exact ⟨by rw [G.out]; rfl, HK1.out.trans HK3.out⟩
      have g1 : decide ((m : Int) < (ar : Int)) = false := decide_eq_false (by omega)
      have g2 : decide (m < ar) = false := decide_eq_false hma
      obtain ⟨s0, s1, s2, s3, s4, s5⟩ := HW.out _ HK3.out
      go_wp2_with fail
      refine (args_of ⟨op, xa, xb, ⟨kn, kh, kl⟩⟩ _).mono ?_
      rintro r w4 ⟨rfl, hk4⟩
      have HK4 := hid (HK3.out.trans hk4)
      clear hk4 s0 s1 s2 s3 s4 s5 g1 g2
      rw [show argsN (⟨op, xa, xb, ⟨kn, kh, kl⟩⟩ : Ins).op = ar from HGA.out]
      obtain ⟨d, hd⟩ : ∃ d : Nat, m - ar + 1 = d := ⟨_, rfl⟩
      have hd1 : (m : Int) + (1 - (ar : Int)) = (d : Int) := by omega
      have hdn : ¬ (insB ⟨op, xa, xb, ⟨kn, kh, kl⟩⟩ = false ∨ m < ar) := by rw [HIB.out]; simp; omega
      have HD := hid (show exprC code = if 16 < d then 4 else exprRun d (code.drop (k + 1)) by rw [HEX.out, if_neg hdn, hd])
      have hd17 : d ≤ 17 := by omega
      have hd2 : wrap64 ((m : Int) + wrap64 (1 - (ar : Int))) = (d : Int) := by unfold wrap64; omega
      have hd3 : wrap64 ((m : Int) + (1 - (ar : Int))) = (d : Int) := by unfold wrap64; omega
      clear hd hdn HEX
      by_cases hbig : 16 < d
      · have g1 : decide ((16 : Int) < (d : Int)) = true := decide_eq_true (by omega)
        have g2 : decide (16 < d) = true := decide_eq_true hbig
        have G : Hid (exprC code = 4) := hid (by rw [HD.out, if_pos hbig])
        go_wp2
        go_ret
        exact ⟨by rw [G.out]; rfl, HK1.out.trans HK4.out⟩
      have g1 : decide ((16 : Int) < (d : Int)) = false := decide_eq_false (by omega)
      have g2 : decide (16 < d) = false := decide_eq_false hbig
      have G := hid (show exprC code = exprRun d (code.drop (k + 1)) by rw [HD.out, if_neg hbig])
      go_wp2
      go_roundw
      case rel => exact ⟨k + 1, d, by omega, by go_num, rfl, by omega, G.out, HK1.out.trans HK4.out⟩
      case measure => simp [intOf]; omega
    · obtain rfl : k = code.length := by omega
      have G : Hid (exprC code = if m = 1 then 0 else 4) := hid (by rw [HEQ.out, List.drop_length]; rfl)
      have g0 : decide ((code.length : Int) < (code.length : Int)) = false := decide_eq_false (by omega)
      by_cases h1 : m = 1
      · subst h1
        go_wp2
        go_ret
        exact ⟨by rw [G.out]; rfl, HKR.out⟩
      · have g1 : ((m : Int) != 1) = true := by simp only [bne, beq_eq_false_iff_ne.2 (show (m : Int) ≠ 1 by omega)]; rfl
        have g2 : (m != 1) = true := by simp only [bne, beq_eq_false_iff_ne.2 h1]; rfl
        have G2 : Hid (exprC code = 4) := hid (by rw [G.out, if_neg h1])
        go_wp2
        go_ret
        exact ⟨by rw [G2.out]; rfl, HKR.out⟩
end Go.Proofs.Ytjebgidddfamlaa

namespace Go.Proofs.Sch
open Go.RowKit Go.Proofs.Heap

section
variable {α : Type} {g : α → List Value}

theorem flat3_len (hg : ∀ x, (g x).length = 3) (l : List α) : (l.flatMap g).length = l.length * 3 := by
  induction l with
  | nil => rfl
  | cons x l ih => rw [List.flatMap_cons, List.length_append, hg, ih, List.length_cons]; omega
theorem flat3_at (hg : ∀ x, (g x).length = 3) (l : List α) : ∀ (i : Nat) (x : α) (r : Nat), l[i]? = some x → r < 3 → (l.flatMap g)[i * 3 + r]? = (g x)[r]? := by
  induction l with
  | nil => intro i x r h; simp at h
  | cons y l ih =>
    intro i x r h hr
    rw [List.flatMap_cons]
    cases i with
    | zero =>
      simp at h
      subst h
      rw [List.getElem?_append_left (by rw [hg]; omega), Nat.zero_mul, Nat.zero_add]
    | succ i =>
      rw [List.getElem?_append_right (by rw [hg]; omega), hg, show (i + 1) * 3 + r - 3 = i * 3 + r by omega]
      exact ih i x r (by simpa using h) hr
theorem flat3_inv (hg : ∀ x, (g x).length = 3) (l : List α) {j : Nat} {u : Value} (h : (l.flatMap g)[j]? = some u) : ∃ x, l[j / 3]? = some x ∧ (g x)[j % 3]? = some u := by
  have hj := (List.getElem?_eq_some_iff.1 h).1
  rw [flat3_len hg] at hj
  have hi : j / 3 < l.length := by omega
  refine ⟨l[j / 3], List.getElem?_eq_getElem hi, ?_⟩
  rw [← flat3_at hg l (j / 3) _ (j % 3) (List.getElem?_eq_getElem hi) (by omega), show j / 3 * 3 + j % 3 = j by omega]
  exact h

theorem rd_row3 {w : World} {b off c : Nat} {l : List α} (hg : ∀ x, (g x).length = 3) (h1 : ∀ x, ∀ u ∈ g x, u.oneCell' = true) (hc : ∀ i x, l[i]? = some x → ∀ r u, (g x)[r]? = some u → w.cell? ⟨b, off + i * 3 + r, none⟩ = some u) :
    Rd w 3 (.slice (some ⟨b, off, none⟩) l.length c) l.length (l.flatMap g) := by
  refine ⟨flat3_len hg l, ?_, .inr ⟨_, _, rfl, fun j u hj => ?_⟩⟩
  · intro u hu
    obtain ⟨x, _, hx⟩ := List.mem_flatMap.1 hu
    exact h1 x u hx
  · obtain ⟨x, hx, hu⟩ := flat3_inv hg l hj
    have := hc _ _ hx _ _ hu
    have hadd : (⟨b, off, none⟩ : Addr).add j = ⟨b, off + j, none⟩ := by unfold Addr.add; split <;> simp_all
    rw [hadd, show off + j = off + j / 3 * 3 + j % 3 by omega]
    exact this

/-- An owned row's cell. -/
theorem owns3_cell {w : World} {base : Nat} {e : TypeId} {q c n : Nat} {l : List α} (hg : ∀ x, (g x).length = 3) (h : w.ownsRow base e 3 (.slice (some ⟨q, 0, none⟩) n c) n (l.flatMap g)) {i r : Nat} {x : α} {u : Value} (hx : l[i]? = some x) (hu : (g x)[r]? = some u) : w.cell? ⟨q, i * 3 + r, none⟩ = some u := by
  have hr : r < 3 := by have := (List.getElem?_eq_some_iff.1 hu).1; rw [hg] at this; exact this
  have := h.cells (g := q) rfl (i * 3 + r) u (by rw [flat3_at hg l i x r hx hr]; exact hu)
  have hadd : (⟨q, 0, none⟩ : Addr).add (i * 3 + r) = ⟨q, i * 3 + r, none⟩ := by unfold Addr.add; split <;> simp_all
  rwa [hadd] at this

/-- A cell of an owned row is set. -/
theorem owns_set3 {w : World} {base : Nat} {e : TypeId} {q c n : Nat} {xs : List Value} (h : w.ownsRow base e 3 (.slice (some ⟨q, 0, none⟩) n c) n xs) (k : Nat) (x : Value) :
    (w.setCell ⟨q, k, none⟩ x).ownsRow base e 3 (.slice (some ⟨q, 0, none⟩) n c) n (xs.set k x) := by
  rcases owns_block h with ⟨e1, _⟩ | ⟨g', c', cur, e1, hb, hg, hn, hm, hs, ht⟩
  · cases e1
  · injection e1 with e1 _ e2
    injection e1 with e1
    injection e1 with e1
    subst e1; subst e2
    refine ⟨by rw [List.length_set]; exact h.1, .inr ⟨_, _, _, rfl, hb, hsc_same hg k x, hn, hm, by simpa using hs, ?_⟩⟩
    rw [← ht]
    simp [List.take_set]
end

def fcl (f : Fld) : List Value := [.string f.name, .int .i64 f.kind, .int .i64 f.count]
theorem fcl_len (f : Fld) : (fcl f).length = 3 := rfl
theorem fcl_one (f : Fld) : ∀ u ∈ fcl f, u.oneCell' = true := by
  intro u hu; simp [fcl] at hu; rcases hu with rfl | rfl | rfl <;> rfl
/-- A component with its row's address and room. -/
abbrev Cv := Cmp × Option Addr × Nat
def ccl (c : Cv) : List Value := [.int .i64 c.1.id, .string c.1.name, .slice c.2.1 c.1.fs.length c.2.2]
theorem ccl_len (c : Cv) : (ccl c).length = 3 := rfl
theorem ccl_one (c : Cv) : ∀ u ∈ ccl c, u.oneCell' = true := by
  intro u hu; simp [ccl] at hu; rcases hu with rfl | rfl | rfl <;> rfl

theorem rd_fields {w : World} {B b off c : Nat} {l : List Fld} (h : FP w B (some ⟨b, off, none⟩) l) : Rd w 3 (.slice (some ⟨b, off, none⟩) l.length c) l.length (l.flatMap fcl) := by
  refine rd_row3 fcl_len fcl_one fun i x hx r u hu => ?_
  obtain ⟨b', off', e, _, h0, h1, h2⟩ := FP.at h hx
  injection e with e
  injection e with e1 e2
  subst e1; subst e2
  match r, hu with
  | 0, hu => injection hu with hu; subst hu; exact h0
  | 1, hu => injection hu with hu; subst hu; exact h1
  | 2, hu => injection hu with hu; subst hu; exact h2
  | _ + 3, hu => simp [fcl] at hu

/-- An owned row of fields is a row of fields. -/
theorem fp_own {w : World} {base n : Nat} {e : TypeId} {p : Option Addr} {c : Nat} {l : List Fld} (hn : l.length = n) (h : w.ownsRow base e 3 (.slice p n c) n (l.flatMap fcl)) : FP w w.heap.size p l := by
  rcases Nat.eq_zero_or_pos n with h0 | h0
  · exact .inl (List.eq_nil_of_length_eq_zero (by omega))
  · obtain ⟨q, rfl⟩ := owns_some h h0
    refine .inr ⟨q, 0, rfl, (h.lt q (by simp [Value.ownBlock])).2, fun i x hx => ?_⟩
    have e0 := owns3_cell fcl_len h hx (r := 0) (u := .string x.name) rfl
    have e1 := owns3_cell fcl_len h hx (r := 1) (u := .int .i64 x.kind) rfl
    have e2 := owns3_cell fcl_len h hx (r := 2) (u := .int .i64 x.count) rfl
    rw [Nat.zero_add]
    exact ⟨e0, e1, e2⟩

/-- The components' rows: the addresses and rooms of a schema. -/
def CV (w : World) (B : Nat) (l : List Cv) : Prop := ∀ c ∈ l, c.1.fs.length ≤ c.2.2 ∧ FP w B c.2.1 c.1.fs
theorem CV.low {w w' : World} {B : Nat} {l : List Cv} (h : CV w B l) (hl : Low B w w') : CV w' B l := fun c hc => ⟨(h c hc).1, FP.low (h c hc).2 hl⟩
theorem CV.mono {w : World} {B B' : Nat} {l : List Cv} (h : CV w B l) (hb : B ≤ B') : CV w B' l := fun c hc => ⟨(h c hc).1, FP.mono (h c hc).2 hb⟩

theorem cp_own {w : World} {base n : Nat} {e : TypeId} {p : Option Addr} {c : Nat} {l : List Cv} (hn : l.length = n) (h : w.ownsRow base e 3 (.slice p n c) n (l.flatMap ccl)) (hv : CV w w.heap.size l) : CP w w.heap.size p (l.map (·.1)) := by
  rcases Nat.eq_zero_or_pos n with h0 | h0
  · exact .inl (by rw [List.eq_nil_of_length_eq_zero (by omega : l.length = 0)]; rfl)
  · obtain ⟨q, rfl⟩ := owns_some h h0
    refine .inr ⟨q, 0, rfl, (h.lt q (by simp [Value.ownBlock])).2, fun i x hx => ?_⟩
    rw [List.getElem?_map] at hx
    cases hy : l[i]? with
    | none => rw [hy] at hx; cases hx
    | some y =>
      rw [hy] at hx
      injection hx with hx
      subst hx
      have e0 := owns3_cell ccl_len h hy (r := 0) (u := .int .i64 y.1.id) rfl
      have e1 := owns3_cell ccl_len h hy (r := 1) (u := .string y.1.name) rfl
      have e2 := owns3_cell ccl_len h hy (r := 2) (u := .slice y.2.1 y.1.fs.length y.2.2) rfl
      have hv' := hv y (List.mem_of_getElem? hy)
      rw [Nat.zero_add]
      exact ⟨e0, e1, y.2.1, y.2.2, e2, hv'.1, hv'.2⟩

/-- A row of components, with what its cells hold. -/
theorem cp_rows {w : World} {B b off : Nat} {l : List Cmp} (h : CP w B (some ⟨b, off, none⟩) l) : ∃ vs : List Cv, vs.map (·.1) = l ∧ CV w B vs ∧ ∀ i x, vs[i]? = some x → ∀ r u, (ccl x)[r]? = some u → w.cell? ⟨b, off + i * 3 + r, none⟩ = some u := by
  have key : ∀ k, k ≤ l.length → ∃ vs : List Cv, vs.map (·.1) = l.take k ∧ CV w B vs ∧ ∀ i x, vs[i]? = some x → ∀ r u, (ccl x)[r]? = some u → w.cell? ⟨b, off + i * 3 + r, none⟩ = some u := by
    intro k
    induction k with
    | zero => intro _; exact ⟨[], by simp, fun c hc => by simp at hc, fun i x hx => by simp at hx⟩
    | succ k ih =>
      intro hk
      obtain ⟨vs, h1, h2, h3⟩ := ih (by omega)
      have hx : l[k]? = some l[k] := List.getElem?_eq_getElem (by omega)
      obtain ⟨b', off', q, z, e, _, c0, c1, c2, c3, c4⟩ := CP.at h hx
      injection e with e
      injection e with e1 e2
      subst e1; subst e2
      have hvl : vs.length = k := by have := congrArg List.length h1; rw [List.length_map, List.length_take] at this; omega
      refine ⟨vs ++ [(l[k], q, z)], ?_, ?_, ?_⟩
      · rw [List.map_append, h1, List.take_add_one, hx]; rfl
      · intro c hc
        rcases List.mem_append.1 hc with hc | hc
        · exact h2 c hc
        · rw [List.mem_singleton.1 hc]; exact ⟨c3, c4⟩
      · intro i x hi r u hu
        by_cases hik : i < vs.length
        · rw [List.getElem?_append_left hik] at hi
          exact h3 i x hi r u hu
        · rw [List.getElem?_append_right (by omega)] at hi
          have hi0 : i - vs.length = 0 := by
            have := (List.getElem?_eq_some_iff.1 hi).1
            simp at this; omega
          rw [hi0] at hi
          injection hi with hi
          subst hi
          have hik : i = k := by omega
          subst hik
          match r, hu with
          | 0, hu => injection hu with hu; subst hu; exact c0
          | 1, hu => injection hu with hu; subst hu; exact c1
          | 2, hu => injection hu with hu; subst hu; exact c2
          | _ + 3, hu => simp [ccl] at hu
  obtain ⟨vs, h1, h2, h3⟩ := key l.length (Nat.le_refl _)
  exact ⟨vs, by rw [h1, List.take_length], h2, h3⟩
end Go.Proofs.Sch
