/- What is proved: what the schema's check of fields answers. -/
import Derived.Test.YtdekdefjfaoclaaDoorLay
import Derived.Test.YtdekdefjfaoclaaDoorMapStr
namespace Go.Proofs.YtdekdefjfaoclaaDoor
open Go.RowKit Go.Proofs.Heap Go.Proofs.Sch Go.Proofs.TMap

/-- Whether a text is in a list. -/
def memB (s : ByteArray) (ns : List ByteArray) : Bool := ns.any (fun m => decide (s = m))
/-- Whether names stop a check: one isn't a name, or was there. -/
def fldBad : List ByteArray → List Fld → Bool
  | _, [] => false
  | seen, f :: r => !nameB f.name || (memB f.name seen || fldBad (seen ++ [f.name]) r)
/-- The error of fields with their names. -/
def fieldsC (fs : List Fld) : Nat := if fldBad [] fs = true then 4 else layC fs

def seenF (ns : List ByteArray) : List UInt8 → Bool := fun l => ns.any (fun m => decide (l = m.data.toList))
theorem seenF_mem (ns : List ByteArray) (s : ByteArray) : seenF ns s.data.toList = memB s ns := by
  have h : ∀ m : ByteArray, (s.data.toList = m.data.toList) ↔ s = m := fun m => ⟨fun e => by cases s; cases m; simp at e; simp [e], fun e => e ▸ rfl⟩
  unfold seenF memB
  congr 1
  funext m
  simp only [h m]
theorem seenF_put (ns : List ByteArray) (s : ByteArray) : (fun l => decide (l = s.data.toList) || seenF ns l) = seenF (ns ++ [s]) := by
  funext l
  unfold seenF
  rw [List.any_append]
  simp [Bool.or_comm]
theorem drop_next {α : Type} {l : List α} {k : Nat} {x : α} (h : l[k]? = some x) : l.drop k = x :: l.drop (k + 1) := by
  obtain ⟨hk, rfl⟩ := List.getElem?_eq_some_iff.1 h
  exact List.drop_eq_getElem_cons hk
theorem nameB_size {s : ByteArray} (h : nameB s = true) : s.size ≤ 12 := (of_decide_eq_true h).2.1
theorem zero_bool (w : World) : (zeroValue 4).run Tryd.prog w = .ok (.bool false) w := by kernel_rfl

abbrev TS := TM Tryd.prog 9 4

set_option maxRecDepth 20000 in
set_option maxHeartbeats 2000000 in
theorem sch_fields (fs : List Fld) (p : Option Addr) (cap : Nat) (w : World) (hl : fs.length ≤ 4398046511104) (hf : FP w w.heap.size p fs) :
    Calls Tryd.prog 42 #[.slice p fs.length cap] w fun r w' => r = .returned (iV (fieldsC fs)) ∧ Keep (fun _ => False) w w' := by
  have HF := hid hf
  have HM0 : Hid (TS (w.alloc (.map #[] 0)) w.heap.size 0 (seenF [])) := hid (TM.made w)
  have HK0 := hid ((Keep.refl (fun _ => False) w).alloc (.map #[] 0))
  clear hf
  have hmm := @run_makeMap Tryd.prog
  go_enter Tryd.func42, Tryd.ntmps42
  go_wp2_with fail
  clear hmm
  go_loopw [5, 9] (fun _ i wr => ∃ k : Nat, k ≤ fs.length ∧ i = iV k ∧ Keep (fun _ => False) w wr ∧ TS wr w.heap.size k (seenF ((fs.take k).map (·.name))) ∧ fldBad [] fs = fldBad ((fs.take k).map (·.name)) (fs.drop k)) (fun _ i _ => fs.length + 1 - (intOf i).toNat)
  case atStart => exact ⟨0, by omega, rfl, HK0.out, HM0.out, rfl⟩
  case round =>
    clear HM0 HK0
    obtain ⟨k, hk, rfl, hkeep, hm, hbad⟩ := hrel
    have HK := hid hkeep; have HM := hid hm; have HB := hid hbad
    clear hkeep hm hbad
    by_cases hlt : k < fs.length
    · obtain ⟨f, hfk⟩ : ∃ f, fs[k]? = some f := ⟨fs[k], by simp [hlt]⟩
      have hfp := FP.low HF.out (Low.of_keep HK.out (Nat.le_refl _) (fun _ h => h.elim))
      obtain ⟨b, off, rfl, hb, c0, c1, c2⟩ := FP.at hfp hfk
      have hin : (0 : Int) ≤ (k : Int) ∧ (k : Int) < (fs.length : Int) := ⟨by omega, by omega⟩
      have htk : (fs.take (k + 1)).map (·.name) = (fs.take k).map (·.name) ++ [f.name] := by rw [take_next hfk, List.map_append]; rfl
      have hbd : fldBad [] fs = (!nameB f.name || (memB f.name ((fs.take k).map (·.name)) || fldBad ((fs.take (k + 1)).map (·.name)) (fs.drop (k + 1)))) := by
        rw [HB.out, drop_next hfk, htk]; rfl
      have HTK := hid htk; have HBD := hid hbd
      clear hfk hfp htk hbd HB
      generalize (fs.take k).map (·.name) = ns at *
      obtain ⟨nm, kd, ct⟩ := f
      simp only at c0 c1 c2
      have hfb := heap_alloc_new wr (.cells #[.string nm, .int .i64 kd, .int .i64 ct] 53)
      have hkb := HK.out.alloc (.cells #[.string nm, .int .i64 kd, .int .i64 ct] 53)
      have hmb := HM.out.keep (((Keep.refl (fun _ => False) wr).alloc (.cells #[.string nm, .int .i64 kd, .int .i64 ct] 53)).block w.heap.size HM.out.lt id)
      have HFB := hid hfb; have HKB := hid hkb; have HMB := hid hmb
      clear hfb hkb hmb HK HM
      go_wp2_with fail
      generalize wr.alloc (.cells #[.string nm, .int .i64 kd, .int .i64 ct] 53) = wa at *
      generalize wr.heap.size = q at *
      refine (is_name nm _).mono ?_
      rintro r w' ⟨rfl, rfl⟩
      cases hn : nameB nm
      · have G3 : Hid (fieldsC fs = 4) := hid (by unfold fieldsC; rw [HBD.out]; simp only [hn]; rfl)
        clear HBD HTK hn
        go_wp2
        go_ret
        exact ⟨by rw [G3.out]; rfl, HKB.out⟩
      have hg0 : wa.cell? ⟨q, 0, none⟩ = some (.string nm) := cell_of HFB.out (by rfl)
      have hlk := HMB.out.look (t := 82) Tryd.underlying9 Tryd.underlying82 Tryd.underlying4 (zero_bool _) nm (by have := nameB_size hn; unfold maxLen; omega)
      rw [seenF_mem] at hlk
      cases hs : memB nm ns
      rotate_left
      · have G3 : Hid (fieldsC fs = 4) := hid (by unfold fieldsC; rw [HBD.out]; simp only [hn, hs]; rfl)
        rw [hs] at hlk
        clear HBD HTK hn hs
        go_wp2
        go_ret
        exact ⟨by rw [G3.out]; rfl, HKB.out⟩
      rw [hs] at hlk
      have HN := hid hn
      have HB2 : Hid (fldBad [] fs = fldBad ((fs.take (k + 1)).map (·.name)) (fs.drop (k + 1))) := hid (by rw [HBD.out]; simp only [hn, hs]; rfl)
      clear HBD hn hs
      go_wp2_with (at_mapUpdate; go_loud (refine wpList_tm_put rfl _ _ _ _ rfl Tryd.underlying9 Tryd.underlying82 Tryd.underlying4 HMB.out (by unfold maxLen; omega) (by rfl) nm (by have := nameB_size HN.out; unfold maxLen; omega) (by rfl) (by rfl) ?_; intro w5 hm5 hg5; rw [seenF_put, ← HTK.out] at hm5; have HM5 := hid hm5; have HK5 := hid (keep_new HKB.out ((Keep.refl (fun k => some w.heap.size = some k) wa).grown hg5 (fun k hk => .inr hk)) (fun k e => by injection e with e; omega)); clear hm5 hg5))
      go_roundw
      case rel => exact ⟨k + 1, by omega, by go_num, HK5.out, HM5.out, HB2.out⟩
      case measure => simp [intOf]; omega
    · obtain rfl : k = fs.length := by omega
      have hbd : fieldsC fs = layC fs := by
        unfold fieldsC
        rw [HB.out, List.drop_length]
        rfl
      have hfp := FP.low HF.out (Low.of_keep HK.out (Nat.le_refl _) (fun _ h => h.elim))
      have HLC := hid (fun cap => layout_check fs p cap wr (FP.mono hfp HK.out.size))
      have HBD := hid hbd
      clear hfp hbd
      go_wp2_with fail
      refine (HLC.out _).mono ?_
      rintro r w1 ⟨rfl, hk1⟩
      have HK1 := hid (HK.out.trans hk1)
      clear hk1
      go_wp2
      go_ret
      exact ⟨by rw [HBD.out]; rfl, HK1.out⟩

end Go.Proofs.YtdekdefjfaoclaaDoor
