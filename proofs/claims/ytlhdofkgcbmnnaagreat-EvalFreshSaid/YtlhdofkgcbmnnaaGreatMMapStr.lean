/- What is proved: laws for a map from texts to bools that the call itself makes, said by a function. -/
import Derived.Test.YtlhdofkgcbmnnaaGreatMHeap
import Derived.Maps.Own
import Derived.Maps.OwnOps
import Derived.Maps.OwnSet
import Derived.Maps.Views
import Derived.Test.YtlhdofkgcbmnnaaGreatMLay
import Derived.Test.YtlhdofkgcbmnnaaGreatMWide2
import Derived.Test.YtlhdofkgcbmnnaaGreatMRegion
import Derived.Deep.Cut
import Derived.Deep.CutRange
import Derived.Deep.CutBlock
namespace Go.Proofs.TMap
open Go.RowKit Go.Proofs.Heap Go.WideMaps

/-- Block b is a map of at most n entries, true just where f is. -/
def TM (P : Program) (tK tE : TypeId) (w : World) (b n : Nat) (f : List UInt8 → Bool) : Prop :=
  ∃ D : DataW Unit, w.ownsMap P tK (plainElem P tE) b n D ∧ Maps.IsMap D ∧ ∀ l, D.atKey (.string l) (.lit (.bool false)) = .lit (.bool (f l))

section
variable {P : Program} {tK tE : TypeId} {w : World} {b n : Nat} {f : List UInt8 → Bool}

theorem TM.made (w : World) : TM P tK tE (w.alloc (.map #[] 0)) w.heap.size 0 (fun _ => false) :=
  ⟨_, World.ownsMap_made w P tK _, ⟨_, rfl⟩, fun _ => rfl⟩
theorem TM.lt (h : TM P tK tE w b n f) : b < w.heap.size := by obtain ⟨D, h1, _⟩ := h; exact h1.lt
theorem TM.keep {w' : World} (h : TM P tK tE w b n f) (hk : w'.heap[b]? = w.heap[b]?) : TM P tK tE w' b n f := by
  obtain ⟨D, ⟨es, clock, h1, h2⟩, h3⟩ := h
  exact ⟨D, ⟨es, clock, hk.trans h1, h2⟩, h3⟩

/-- 'm[s]'. -/
theorem TM.look {t : TypeId} (h : TM P tK tE w b n f) (hk : P.underlying tK = some .string) (ht : P.underlying t = some (.map tK tE)) (he : P.underlying tE = some .bool) (hz : (zeroValue tE).run P w = .ok (.bool false) w) (s : ByteArray) (hs : s.size ≤ maxLen) :
    (Instr.lookup t (.map (some b)) (.string s) false).run P w = .ok (.bool (f s.data.toList)) w := by
  obtain ⟨D, h1, h2, h3⟩ := h
  obtain ⟨v, ps, hrun, hv⟩ := h1.lookup (Maps.string_keyed hk) ht hz (plainElem_bool he false) (keyOf_string_mk hk hs)
  rw [h3] at hv
  rw [hrun]
  cases v <;> simp [plainElem, he] at hv
  · rw [hv.1]

/-- 'm[s] = true', at the operation. -/
theorem wpList_tm_put {ops : Array Oper} {rest : List Oper} {o : Oper} {a : Act} {Q : Exit → Act → World → Prop} (hg : o.guard = none) (m x v : Operand) (t : TypeId) (hop : o.op = Op.mapUpdate t m x v)
    (hk : P.underlying tK = some .string) (ht : P.underlying t = some (.map tK tE)) (he : P.underlying tE = some .bool)
    (h : TM P tK tE w b n f) (hn : n < maxLen) (hm : a.eval m = .map (some b)) (s : ByteArray) (hs : s.size ≤ maxLen) (hx : a.eval x = .string s) (hv : a.eval v = .bool true)
    (hK : ∀ w', TM P tK tE w' b (n + 1) (fun l => decide (l = s.data.toList) || f l) → w.grownBy w' (some b) → wpList P ops Q rest (a.put o.dst undef) w') : wpList P ops Q (o :: rest) a w := by
  obtain ⟨D, h1, h2, h3⟩ := h
  refine wpList_mapUpdate_own w hg m x v t hop tK tE (Maps.string_keyed hk) ht _ b n D hm h1 hn _ _ _ hx hv (keyOf_string_mk hk hs) _ [] (plainElem_bool he true) ?_
  intro w' g1 g2
  refine hK w' ⟨_, g1, ?_, fun l => ?_⟩ g2
  · obtain ⟨es, rfl⟩ := h2; exact ⟨_, rfl⟩
  · by_cases hl : l = s.data.toList
    · rw [hl, Maps.atKey_put_same h2 (by trivial)]; simp
    · rw [Maps.atKey_put_other (fun e => hl (by injection e)), h3]; simp [hl]
end
end Go.Proofs.TMap

namespace Go.Proofs.YtlhdofkgcbmnnaaGreat
open Go.RowKit Go.Proofs.Heap Go.Proofs.Sch Go.Proofs.TMap

/-- Whether a text is in a list. -/
def memB (s : ByteArray) (ns : List ByteArray) : Bool := ns.any (fun m => decide (s = m))
/-- Whether names stop a check: one isn't a name, or was there. -/
def fldBad : List ByteArray → List Fld → Bool
  | _, [] => false
  | seen, f :: r => !nameB f.name || (memB f.name seen || fldBad (seen ++ [f.name]) r)
/-- The error of fields with their names. -/
def fieldsC (fs : List Fld) : Nat := if fldBad [] fs = true then 4 else layC fs

def seenF (ns : List ByteArray) : List UInt8 → Bool := fun l => ns.any (fun m => decide (l = m.data.toList))
theorem seenF_mem (ns : List ByteArray) (s : ByteArray) : seenF ns s.data.toList = memB s ns := by
  have h : ∀ m : ByteArray, (s.data.toList = m.data.toList) ↔ s = m := fun m => ⟨fun e => by cases s; cases m; simp at e; simp [e], fun e => e ▸ rfl⟩
  unfold seenF memB
  congr 1
  funext m
  simp only [h m]
theorem seenF_put (ns : List ByteArray) (s : ByteArray) : (fun l => decide (l = s.data.toList) || seenF ns l) = seenF (ns ++ [s]) := by
  funext l
  unfold seenF
  rw [List.any_append]
  simp [Bool.or_comm]
theorem drop_next {α : Type} {l : List α} {k : Nat} {x : α} (h : l[k]? = some x) : l.drop k = x :: l.drop (k + 1) := by
  obtain ⟨hk, rfl⟩ := List.getElem?_eq_some_iff.1 h
  exact List.drop_eq_getElem_cons hk
theorem nameB_size {s : ByteArray} (h : nameB s = true) : s.size ≤ 12 := (of_decide_eq_true h).2.1
theorem zero_bool (w : World) : (zeroValue 4).run Tryz.prog w = .ok (.bool false) w := by kernel_rfl

abbrev TS := TM Tryz.prog 9 4

set_option maxRecDepth 20000 in
set_option maxHeartbeats 2000000 in
theorem sch_fields (fs : List Fld) (p : Option Addr) (cap : Nat) (w : World) (hl : fs.length ≤ 4398046511104) (hf : FP w w.heap.size p fs) :
    Calls Tryz.prog 64 #[.slice p fs.length cap] w fun r w' => r = .returned (iV (fieldsC fs)) ∧ Keep (fun _ => False) w w' := by
  have HF := hid hf
  have HM0 : Hid (TS (w.alloc (.map #[] 0)) w.heap.size 0 (seenF [])) := hid (TM.made w)
  have HK0 := hid ((Keep.refl (fun _ => False) w).alloc (.map #[] 0))
  clear hf
  have hmm := @run_makeMap Tryz.prog
  go_enter Tryz.func64, Tryz.ntmps64
  go_wp2_with fail
  clear hmm
  go_loopw [5, 9] (fun _ i wr => ∃ k : Nat, k ≤ fs.length ∧ i = iV k ∧ Keep (fun _ => False) w wr ∧ TS wr w.heap.size k (seenF ((fs.take k).map (·.name))) ∧ fldBad [] fs = fldBad ((fs.take k).map (·.name)) (fs.drop k)) (fun _ i _ => fs.length + 1 - (intOf i).toNat)
  case atStart => exact ⟨0, by omega, rfl, HK0.out, HM0.out, rfl⟩
  case round =>
    clear HM0 HK0
    obtain ⟨k, hk, rfl, hkeep, hm, hbad⟩ := hrel
    have HK := hid hkeep; have HM := hid hm; have HB := hid hbad
    clear hkeep hm hbad
    by_cases hlt : k < fs.length
    · obtain ⟨f, hfk⟩ : ∃ f, fs[k]? = some f := ⟨fs[k], by simp [hlt]⟩
      have hfp := FP.low HF.out (Low.of_keep HK.out (Nat.le_refl _) (fun _ h => h.elim))
      obtain ⟨b, off, rfl, hb, c0, c1, c2⟩ := FP.at hfp hfk
      have hin : (0 : Int) ≤ (k : Int) ∧ (k : Int) < (fs.length : Int) := ⟨by omega, by omega⟩
      have htk : (fs.take (k + 1)).map (·.name) = (fs.take k).map (·.name) ++ [f.name] := by rw [take_next hfk, List.map_append]; rfl
      have hbd : fldBad [] fs = (!nameB f.name || (memB f.name ((fs.take k).map (·.name)) || fldBad ((fs.take (k + 1)).map (·.name)) (fs.drop (k + 1)))) := by
        rw [HB.out, drop_next hfk, htk]; rfl
      have HTK := hid htk; have HBD := hid hbd
      clear hfk hfp htk hbd HB
      generalize (fs.take k).map (·.name) = ns at *
      obtain ⟨nm, kd, ct⟩ := f
      simp only at c0 c1 c2
      have hfb := heap_alloc_new wr (.cells #[.string nm, .int .i64 kd, .int .i64 ct] 83)
      have hkb := HK.out.alloc (.cells #[.string nm, .int .i64 kd, .int .i64 ct] 83)
      have hmb := HM.out.keep (((Keep.refl (fun _ => False) wr).alloc (.cells #[.string nm, .int .i64 kd, .int .i64 ct] 83)).block w.heap.size HM.out.lt id)
      have HFB := hid hfb; have HKB := hid hkb; have HMB := hid hmb
      clear hfb hkb hmb HK HM
      go_wp2_with fail
      generalize wr.alloc (.cells #[.string nm, .int .i64 kd, .int .i64 ct] 83) = wa at *
      generalize wr.heap.size = q at *
      refine (is_name nm _).mono ?_
      rintro r w' ⟨rfl, rfl⟩
      cases hn : nameB nm
      · have G3 : Hid (fieldsC fs = 4) := hid (by unfold fieldsC; rw [HBD.out]; simp only [hn]; rfl)
        clear HBD HTK hn
        go_wp2
        go_ret
        exact ⟨by rw [G3.out]; rfl, HKB.out⟩
      have hg0 : wa.cell? ⟨q, 0, none⟩ = some (.string nm) := cell_of HFB.out (by rfl)
      have hlk := HMB.out.look (t := 136) Tryz.underlying9 Tryz.underlying136 Tryz.underlying4 (zero_bool _) nm (by have := nameB_size hn; unfold maxLen; omega)
      rw [seenF_mem] at hlk
      cases hs : memB nm ns
      rotate_left
      · have G3 : Hid (fieldsC fs = 4) := hid (by unfold fieldsC; rw [HBD.out]; simp only [hn, hs]; rfl)
        rw [hs] at hlk
        clear HBD HTK hn hs
        go_wp2
        go_ret
        exact ⟨by rw [G3.out]; rfl, HKB.out⟩
      rw [hs] at hlk
      have HN := hid hn
      have HB2 : Hid (fldBad [] fs = fldBad ((fs.take (k + 1)).map (·.name)) (fs.drop (k + 1))) := hid (by rw [HBD.out]; simp only [hn, hs]; rfl)
      clear HBD hn hs
      go_wp2_with (at_mapUpdate; go_loud (refine wpList_tm_put rfl _ _ _ _ rfl Tryz.underlying9 Tryz.underlying136 Tryz.underlying4 HMB.out (by unfold maxLen; omega) (by rfl) nm (by have := nameB_size HN.out; unfold maxLen; omega) (by rfl) (by rfl) ?_; intro w5 hm5 hg5; rw [seenF_put, ← HTK.out] at hm5; have HM5 := hid hm5; have HK5 := hid (keep_new HKB.out ((Keep.refl (fun k => some w.heap.size = some k) wa).grown hg5 (fun k hk => .inr hk)) (fun k e => by injection e with e; omega)); clear hm5 hg5))
      go_roundw
      case rel => exact ⟨k + 1, by omega, by go_num, HK5.out, HM5.out, HB2.out⟩
      case measure => simp [intOf]; omega
    · obtain rfl : k = fs.length := by omega
      have hbd : fieldsC fs = layC fs := by
        unfold fieldsC
        rw [HB.out, List.drop_length]
        rfl
      have hfp := FP.low HF.out (Low.of_keep HK.out (Nat.le_refl _) (fun _ h => h.elim))
      have HLC := hid (fun cap => layout_check fs p cap wr (FP.mono hfp HK.out.size))
      have HBD := hid hbd
      clear hfp hbd
      go_wp2_with fail
      refine (HLC.out _).mono ?_
      rintro r w1 ⟨rfl, hk1⟩
      have HK1 := hid (HK.out.trans hk1)
      clear hk1
      go_wp2
      go_ret
      exact ⟨by rw [HBD.out]; rfl, HK1.out⟩

end Go.Proofs.YtlhdofkgcbmnnaaGreat

namespace Go.Proofs.YtlhdofkgcbmnnaaGreat
open Go.RowKit Go.Proofs.Heap Go.Proofs.Sch Go.Proofs.Wide

/-- How many elements the fields have. -/
def sumN : List Fld → Nat
  | [] => 0
  | f :: r => f.count.toNat + sumN r
theorem sumN_append (a b : List Fld) : sumN (a ++ b) = sumN a + sumN b := by
  induction a with
  | nil => simp [sumN]
  | cons x a ih => simp [sumN, ih]; omega
theorem layC_zero {fs : List Fld} (h : layC fs = 0) : fs.length ≤ 8 ∧ (∀ f ∈ fs, okF f) := by
  unfold layC at h
  by_cases h1 : 8 < fs.length
  · rw [if_pos h1] at h; omega
  · rw [if_neg h1] at h
    by_cases h2 : ∀ f ∈ fs, okF f
    · exact ⟨by omega, h2⟩
    · rw [if_neg h2] at h; omega
theorem sumN_next {fs : List Fld} {k : Nat} {f : Fld} (h : fs[k]? = some f) : sumN (fs.take (k + 1)) = sumN (fs.take k) + f.count.toNat := by
  rw [take_next h, sumN_append]; simp [sumN]
theorem sumN_le (fs : List Fld) (h : ∀ f ∈ fs, okF f) : sumN fs ≤ 8 * fs.length := by
  induction fs with
  | nil => simp [sumN]
  | cons f r ih =>
    have h1 := (h f (by simp)).2
    have h2 := ih (fun g hg => h g (by simp [hg]))
    simp only [sumN, List.length_cons]
    omega

set_option maxRecDepth 20000 in
set_option maxHeartbeats 1000000 in
theorem lay_start (fs : List Fld) (p : Option Addr) (cap n : Nat) (w : World) (h0 : layC fs = 0) (hn : n < fs.length) (hcap : fs.length ≤ cap) (hf : FP w w.heap.size p fs) :
    Calls Tryz.prog 142 #[.slice p fs.length cap, .int .i64 (n : Int)] w fun r w' => r = .returned (iV (sumN (fs.take n))) ∧ Keep (fun _ => False) w w' := by
  have HF := hid hf
  have hlt0 : 0 < fs.length := Nat.lt_of_le_of_lt (Nat.zero_le _) hn
  obtain ⟨b0, off0, rfl, hb0, hq0⟩ := FP.at hf (List.getElem?_eq_getElem hlt0)
  have hok := layC_zero h0
  have HOK := hid hok.2
  have hl8 := hok.1
  clear hf hok hq0
  go_enter Tryz.func142, Tryz.ntmps142
  go_wp2_with fail
  refine (layout_check fs _ cap _ HF.out).mono ?_
  rintro r w1 ⟨rfl, hk1⟩
  rw [h0]
  have HK1 := hid hk1
  have g1 : decide ((fs.length : Int) ≤ (n : Int)) = false := decide_eq_false (by omega)
  have g2 : decide (fs.length ≤ n) = false := decide_eq_false (by omega)
  have hin0 : (0 : Int) ≤ (n : Int) ∧ (n : Int) ≤ (cap : Int) := ⟨by omega, by omega⟩
  clear hk1
  go_wp2_with fail
  go_loopw [5, 7, 25] (fun s _ i wr => ∃ k : Nat, k ≤ n ∧ i = iV k ∧ s = iV (sumN (fs.take k)) ∧ Keep (fun _ => False) w1 wr ∧ sumN (fs.take k) ≤ 8 * k) (fun _ _ i _ => n + 1 - (intOf i).toNat)
  case atStart => exact ⟨0, by omega, rfl, rfl, Keep.refl _ _, by simp [sumN]⟩
  case round =>
    obtain ⟨k, hk, rfl, rfl, hkeep, hle⟩ := hrel
    have HK := hid (HK1.out.trans hkeep); have HK2 := hid hkeep
    clear hkeep
    by_cases hlt : k < n
    · obtain ⟨f, hfk⟩ : ∃ f, fs[k]? = some f := ⟨fs[k]'(by omega), by simp [show k < fs.length by omega]⟩
      have hof := (HOK.out f (List.mem_of_getElem? hfk)).2
      obtain ⟨b, off, e, hb, c0, c1, c2⟩ := FP.at (FP.low HF.out (Low.keep0 HK.out)) hfk
      injection e with e
      injection e with e1 e2
      subst e1; subst e2
      have hin : (0 : Int) ≤ (k : Int) ∧ (k : Int) < (n : Int) := ⟨by omega, by omega⟩
      have hsn := sumN_next hfk
      have HSN := hid hsn
      clear hfk hsn
      obtain ⟨nm, kd, ct⟩ := f
      obtain ⟨cn, rfl⟩ := Int.eq_ofNat_of_zero_le (a := ct) (by have := hof.1; simp only at this; omega)
      simp only at c0 c1 c2 hof
      have hcn : cn ≤ 8 := by omega
      have HK3 := hid (HK2.out.alloc (.cells #[.string nm, .int .i64 kd, .int .i64 (cn : Int)] 83))
      generalize sumN (fs.take k) = sm at *
      go_wp2
      go_roundw
      case rel => exact ⟨k + 1, by omega, by go_num, by rw [HSN.out]; simp, HK3.out, by rw [HSN.out]; simp; omega⟩
      case measure => simp [intOf]; omega
    · obtain rfl : k = n := by omega
      go_wp2
      go_ret
      exact ⟨rfl, HK.out⟩

set_option maxRecDepth 20000 in
set_option maxHeartbeats 1000000 in
theorem lay_elems (fs : List Fld) (p : Option Addr) (cap : Nat) (w : World) (h0 : layC fs = 0) (hcap : fs.length ≤ cap) (hf : FP w w.heap.size p fs) :
    Calls Tryz.prog 101 #[.slice p fs.length cap] w fun r w' => r = .returned (iV (sumN fs)) ∧ Keep (fun _ => False) w w' := by
  have HF := hid hf
  have hok := layC_zero h0
  have HOK := hid hok.2
  have hl8 := hok.1
  clear hf hok
  go_enter Tryz.func101, Tryz.ntmps101
  go_wp2_with fail
  refine (layout_check fs _ cap _ HF.out).mono ?_
  rintro r w1 ⟨rfl, hk1⟩
  rw [h0]
  have HK1 := hid hk1
  clear hk1
  by_cases hz : fs.length = 0
  · have hfs : fs = [] := List.eq_nil_of_length_eq_zero hz
    subst hfs
    go_wp2
    go_ret
    exact ⟨rfl, HK1.out⟩
  have g1 : ((fs.length : Int) == 0) = false := beq_eq_false_iff_ne.2 (by omega)
  have g2 : (fs.length == 0) = false := beq_eq_false_iff_ne.2 hz
  obtain ⟨n, hn⟩ : ∃ n, fs.length = n + 1 := ⟨fs.length - 1, by omega⟩
  obtain ⟨f, hfk⟩ : ∃ f, fs[n]? = some f := ⟨fs[n]'(by omega), by simp [show n < fs.length by omega]⟩
  have hof := (HOK.out f (List.mem_of_getElem? hfk)).2
  obtain ⟨b, off, rfl, hb, c0, c1, c2⟩ := FP.at (FP.low HF.out (Low.keep0 HK1.out)) hfk
  have hsn := sumN_next hfk
  rw [← hn, List.take_length] at hsn
  have hsl := sumN_le (fs.take n) (fun f hf => HOK.out f (List.mem_of_mem_take hf))
  have hsl2 : sumN (fs.take n) ≤ 64 := by rw [List.length_take] at hsl; omega
  have HSN := hid hsn
  have HLS := hid (fun w (hf : FP w w.heap.size (some ⟨b, off, none⟩) fs) => lay_start fs _ cap n w h0 (by omega) hcap hf)
  have HFD := hid (FP.mono (FP.low HF.out (Low.keep0 HK1.out.drew)) HK1.out.drew.size)
  have hf2 : w1.drew.cell? ⟨b, off + n * 3 + 2, none⟩ = some (.int .i64 f.count) := c2
  have HB := hid (Nat.lt_of_lt_of_le hb HK1.out.size)
  clear hfk hsn hsl c0 c1 c2 h0
  generalize f.count = ct at *
  obtain ⟨cn, rfl⟩ := Int.eq_ofNat_of_zero_le (a := ct) (by have := hof.1; omega)
  rw [hn] at g1 g2 ⊢
  have hin : (0 : Int) ≤ (n : Int) ∧ (n : Int) < ((n + 1 : Nat) : Int) := ⟨by omega, by omega⟩
  rw [hn] at HLS
  go_wp2_with fail
  refine Plan.wp_region_pl [(false, 0, []), (false, 1, []), (false, 2, []), (false, 3, []), (false, 5, []), (false, 6, []), (false, 7, []), (false, 8, []), (false, 9, []), (false, 10, []), (false, 11, []), (true, 4, [11, 10, 9, 8, 7, 6, 5]), (false, 12, []), (false, 13, [])] (by kernel_rfl) (by kernel_rfl) ?_
  repeat (refine Plan.pl_st rfl ?_; go_big_quiet_step (fail); refine wpQuiet_nil ?_)
  refine Plan.pl_ac rfl ?_
  go_wp2_with fail
  refine (HLS.out _ HFD.out).mono ?_
  rintro r w2 ⟨rfl, hk2⟩
  have HK2 := hid (HK1.out.drew.trans hk2)
  have hf3 := ((Low.keep0 hk2).cell (o := off + n * 3 + 2) HB.out).trans hf2
  clear hk2 hf2
  generalize sumN (fs.take n) = sm at *
  go_wp2
  refine Plan.plQ_mk ?_ ?_
  · repeat (refine Plan.chk_st rfl ?_ ?_; focus (go_big_quiet_step (fail); exact wpQuiet_nil rfl))
    exact Plan.chk_end
  repeat (refine Plan.pl_st rfl ?_; go_big_quiet_step (fail); refine wpQuiet_nil ?_)
  refine Plan.pl_end ?_
  go_wp2
  go_ret
  exact ⟨by rw [HSN.out]; simp, HK2.out⟩

end Go.Proofs.YtlhdofkgcbmnnaaGreat

namespace Go.Proofs.Sch
open Go.RowKit Go.Proofs.Heap Go.Proofs.Wide
def IntAt (w : World) (b o : Nat) (x : WI) : Prop := w.cell? ⟨b, o, none⟩ = some (.bool x.neg) ∧ w.cell? ⟨b, o + 1, none⟩ = some (.int .u64 (x.hi : Int)) ∧ w.cell? ⟨b, o + 2, none⟩ = some (.int .u64 (x.lo : Int))
abbrev XP := RowP 3 IntAt
theorem XP.low {w w' : World} {B : Nat} {p : Option Addr} {l : List WI} (h : XP w B p l) (hl : Low B w w') : XP w' B p l :=
  RowP.imp h (Nat.le_refl _) fun b o x hb hx => ⟨by rw [hl.cell hb]; exact hx.1, by rw [hl.cell hb]; exact hx.2.1, by rw [hl.cell hb]; exact hx.2.2⟩
theorem XP.mono {w : World} {B B' : Nat} {p : Option Addr} {l : List WI} (h : XP w B p l) (hB : B ≤ B') : XP w B' p l := RowP.imp h hB fun _ _ _ _ hx => hx
theorem XP.at {w : World} {B : Nat} {p : Option Addr} {l : List WI} (h : XP w B p l) {i : Nat} {f : WI} (hi : l[i]? = some f) : ∃ b off, p = some ⟨b, off, none⟩ ∧ b < B ∧ w.cell? ⟨b, off + i * 3, none⟩ = some (.bool f.neg) ∧ w.cell? ⟨b, off + i * 3 + 1, none⟩ = some (.int .u64 (f.hi : Int)) ∧ w.cell? ⟨b, off + i * 3 + 2, none⟩ = some (.int .u64 (f.lo : Int)) := by
  rcases h with rfl | ⟨b, off, hp, hb, hc⟩
  · simp at hi
  · obtain ⟨h1, h2, h3⟩ := hc i f hi
    exact ⟨b, off, hp, hb, h1, h2, h3⟩
/-- The rest of a row. -/
theorem XP.drop {w : World} {B b off : Nat} {l : List WI} (h : XP w B (some ⟨b, off, none⟩) l) (n : Nat) : XP w B (some ⟨b, off + n * 3, none⟩) (l.drop n) := by
  rcases h with rfl | ⟨b', off', hp, hb, hc⟩
  · exact .inl (by simp)
  · injection hp with hp
    injection hp with h1 h2
    subst h1; subst h2
    refine .inr ⟨_, _, rfl, hb, fun i x hx => ?_⟩
    rw [List.getElem?_drop] at hx
    have := hc (n + i) x hx
    rwa [show off + (n + i) * 3 = off + n * 3 + i * 3 by omega] at this
end Go.Proofs.Sch
namespace Go.Proofs.YtlhdofkgcbmnnaaGreat
open Go.RowKit Go.Proofs.Heap Go.Proofs.Sch Go.Proofs.Wide

/-- Whether all numbers fit their fields' kinds. -/
def fitRun : List Fld → List WI → Bool
  | [], _ => true
  | f :: r, vs => (vs.take f.count.toNat).all (fitsB f.kind) && fitRun r (vs.drop f.count.toNat)
/-- The error of a value. -/
def fitC (fs : List Fld) (vs : List WI) : Nat := if layC fs = 0 then (if vs.length = sumN fs then (if fitRun fs vs = true then 0 else 3) else 4) else layC fs

set_option maxRecDepth 20000 in
set_option maxHeartbeats 4000000 in
theorem lay_fitU (fs : List Fld) (p : Option Addr) (cap : Nat) (vs : List WI) (q : Option Addr) (qc : Nat) (w : World) (hcap : fs.length ≤ cap) (hqc : vs.length ≤ qc) (hfit : ∀ x ∈ vs, x.fit) (hf : FP w w.heap.size p fs) (hv : XP w w.heap.size q vs) :
    Calls Tryz.prog 68 #[.slice p fs.length cap, .slice q vs.length qc] w fun r w' => r = .returned (iV (fitC fs vs)) ∧ Keep (fun _ => False) w w' := by
  have HF := hid hf; have HV := hid hv; have HX := hid hfit
  clear hf hv hfit
  go_enter Tryz.func68, Tryz.ntmps68
  go_wp2_with fail
  refine (layout_check fs _ cap _ HF.out).mono ?_
  rintro r w1 ⟨rfl, hk1⟩
  have HK1 := hid hk1
  clear hk1
  generalize hz : layC fs = z at *
  by_cases h0 : z = 0
  rotate_left
  · have g1 : ((z : Int) == 0) = false := beq_eq_false_iff_ne.2 (by omega)
    have g2 : (z == 0) = false := beq_eq_false_iff_ne.2 h0
    have g3 : ((z : Int) != 0) = true := by rw [bne, g1]; rfl
    have g4 : (z != 0) = true := by rw [bne, g2]; rfl
    have G : Hid (fitC fs vs = z) := hid (by unfold fitC; rw [hz, if_neg h0])
    clear h0 hz
    go_wp2
    go_ret
    exact ⟨by rw [G.out]; rfl, HK1.out⟩
  subst h0
  have hok := layC_zero hz
  have HOK := hid hok.2
  have hl8 := hok.1
  have HZ := hid hz
  clear hok hz
  go_wp2_with fail
  refine (lay_elems fs p cap _ HZ.out hcap (FP.mono (FP.low HF.out (Low.keep0 HK1.out)) HK1.out.size)).mono ?_
  rintro r w2 ⟨rfl, hk2⟩
  have HK2 := hid (HK1.out.trans hk2)
  clear hk2
  by_cases hlen : vs.length = sumN fs
  rotate_left
  · have g1 : ((vs.length : Int) == (sumN fs : Int)) = false := beq_eq_false_iff_ne.2 (by omega)
    have g2 : (vs.length == sumN fs) = false := beq_eq_false_iff_ne.2 hlen
    have g3 : ((vs.length : Int) != (sumN fs : Int)) = true := by rw [bne, g1]; rfl
    have g4 : (vs.length != sumN fs) = true := by rw [bne, g2]; rfl
    have G : Hid (fitC fs vs = 4) := hid (by unfold fitC; rw [HZ.out, if_pos rfl, if_neg hlen])
    clear hlen
    go_wp2
    go_ret
    exact ⟨by rw [G.out]; rfl, HK2.out⟩
  have HL := hid hlen
  have HFC : Hid (∀ b, fitRun fs vs = b → fitC fs vs = if b = true then 0 else 3) := hid (fun b hb => by unfold fitC; rw [HZ.out, if_pos rfl, if_pos HL.out, hb])
  have g1 : ((sumN fs : Int) != (sumN fs : Int)) = false := by simp
  rw [hlen]
  have hvl : sumN fs ≤ 65536 := by
    have h1 := sumN_le fs HOK.out
    omega
  rw [hlen] at hqc
  clear hlen
  go_wp2_with fail
  clear g1
  go_loopw [1, 7, 9, 22] (fun vv _ _ i wr => ∃ (k m : Nat) (q' : Option Addr) (c' : Nat) (rs : List WI), k ≤ fs.length ∧ i = iV k ∧ vv = .slice q' m c' ∧ m ≤ c' ∧ m = rs.length ∧ m = sumN (fs.drop k) ∧ m ≤ 65536 ∧ (∀ x ∈ rs, x.fit) ∧ XP w w.heap.size q' rs ∧ fitRun fs vs = fitRun (fs.drop k) rs ∧ Keep (fun _ => False) w wr) (fun _ _ _ i _ => fs.length + 1 - (intOf i).toNat)
  case atStart => exact ⟨0, sumN fs, q, qc, vs, by omega, rfl, rfl, hqc, HL.out.symm, rfl, hvl, HX.out, HV.out, rfl, HK2.out⟩
  case round =>
    obtain ⟨k, m, q', c', rs, hk, rfl, rfl, hmc, hmr, hms, hm6, hfr, hxp, hrun, hkeep⟩ := hrel
    have HK := hid hkeep; have HFR := hid hfr; have HXP := hid hxp; have HRUN := hid hrun
    have HMR := hid hmr; have HMS := hid hms
    clear hkeep hfr hxp hrun hmr hms
    by_cases hlt : k < fs.length
    · obtain ⟨f, hfk⟩ : ∃ f, fs[k]? = some f := ⟨fs[k], by simp [hlt]⟩
      have hof := (HOK.out f (List.mem_of_getElem? hfk)).2
      obtain ⟨b, off, rfl, hb, c0, c1, c2⟩ := FP.at (FP.low HF.out (Low.keep0 HK.out)) hfk
      have hin : (0 : Int) ≤ (k : Int) ∧ (k : Int) < (fs.length : Int) := ⟨by omega, by omega⟩
      have hrd : fitRun fs vs = ((rs.take f.count.toNat).all (fitsB f.kind) && fitRun (fs.drop (k + 1)) (rs.drop f.count.toNat)) := by rw [HRUN.out, drop_next hfk]; rfl
      have hsd : m = f.count.toNat + sumN (fs.drop (k + 1)) := by rw [HMS.out, drop_next hfk]; rfl
      have HRD := hid hrd
      clear hfk hrd HRUN
      obtain ⟨nm, kd, ct⟩ := f
      obtain ⟨cn, rfl⟩ := Int.eq_ofNat_of_zero_le (a := ct) (by have := hof.1; simp only at this; omega)
      simp only [Int.toNat_natCast] at c0 c1 c2 hof hsd
      have HRD2 : Hid (fitRun fs vs = ((rs.take cn).all (fitsB kd) && fitRun (fs.drop (k + 1)) (rs.drop cn))) := hid HRD.out
      clear HRD
      have hcn : 1 ≤ cn ∧ cn ≤ 8 := ⟨by omega, by omega⟩
      have hcm : cn ≤ m := by omega
      have HSD := hid hsd
      clear hsd
      obtain ⟨x0, hx0⟩ : ∃ x, rs[0]? = some x := ⟨rs[0]'(by have := HMR.out; omega), by simp [show 0 < rs.length by have := HMR.out; omega]⟩
      obtain ⟨qb, qo, rfl, hqb, _⟩ := XP.at HXP.out hx0
      have hin0 : (0 : Int) ≤ (cn : Int) ∧ (cn : Int) ≤ (c' : Int) := ⟨by omega, by omega⟩
      have hin1 : (0 : Int) ≤ (cn : Int) ∧ (cn : Int) ≤ (m : Int) := ⟨by omega, by omega⟩
      have HK3 := hid (HK.out.alloc (.cells #[.string nm, .int .i64 kd, .int .i64 (cn : Int)] 83))
      have hfb := heap_alloc_new wr (.cells #[.string nm, .int .i64 kd, .int .i64 (cn : Int)] 83)
      have HFB := hid hfb
      clear hx0 hfb
      go_upto_region 9 with fail
      generalize wr.alloc (.cells #[.string nm, .int .i64 kd, .int .i64 (cn : Int)] 83) = wa at *
      generalize wr.heap.size = sb at *
      have d1 : wa.cell? ⟨sb, 2, none⟩ = some (.int .i64 (cn : Int)) := cell_of HFB.out (by rfl)
      clear c0 c1 c2
      go_wp2_with fail
      have HWA : Hid (∀ wy, Keep (fun _ => False) wa wy → wy.cell? ⟨sb, 1, none⟩ = some (.int .i64 kd) ∧ wy.cell? ⟨sb, 2, none⟩ = some (.int .i64 (cn : Int))) := hid (fun wy hk => ⟨cell_of (hk.get HFB.out (fun h => h)) (by rfl), cell_of (hk.get HFB.out (fun h => h)) (by rfl)⟩)
      clear d1
      go_loopw [9, 31] (fun _ i wy => ∃ j : Nat, j ≤ cn ∧ i = iV j ∧ Keep (fun _ => False) wa wy ∧ ∀ x ∈ rs.take j, fitsB kd x = true) (fun _ i _ => cn + 1 - (intOf i).toNat)
      case atStart => exact ⟨0, by omega, rfl, Keep.refl _ _, by simp⟩
      case round =>
        obtain ⟨j, hj, rfl, hky, hal⟩ := hrel
        have HKY := hid hky; have HAL := hid hal
        clear hky hal
        by_cases hjt : j < cn
        · obtain ⟨x, hx⟩ : ∃ x, rs[j]? = some x := ⟨rs[j]'(by have := HMR.out; omega), by simp [show j < rs.length by have := HMR.out; omega]⟩
          have hxf := HFR.out x (List.mem_of_getElem? hx)
          have HKW := hid (HK3.out.trans HKY.out)
          obtain ⟨b2, o2, e, hb2, a0, a1, a2⟩ := XP.at (XP.low HXP.out (Low.keep0 HKW.out)) hx
          injection e with e
          injection e with e1 e2
          subst e1; subst e2
          have hin2 : (0 : Int) ≤ (j : Int) ∧ (j : Int) < (cn : Int) := ⟨by omega, by omega⟩
          have HN : Hid (fitsB kd x = true → ∀ y ∈ rs.take (j + 1), fitsB kd y = true) := hid (fun h y hy => by
            rw [take_next hx] at hy
            rcases List.mem_append.1 hy with h2 | h2
            · exact HAL.out y h2
            · rw [List.mem_singleton.1 h2]; exact h)
          have HBAD : Hid (fitsB kd x = false → fitRun fs vs = false) := hid (fun h => by
            rw [HRD2.out]
            have hm : x ∈ rs.take cn := by rw [List.mem_take_iff_getElem]; obtain ⟨h1, h2⟩ := List.getElem?_eq_some_iff.1 hx; exact ⟨j, by omega, h2⟩
            have : (rs.take cn).all (fitsB kd) = false := by rw [List.all_eq_false]; exact ⟨x, hm, by rw [h]; simp⟩
            rw [this]; rfl)
          have hk4 := HKY.out.alloc (.cells (WC x) 86)
          have HK4 := hid hk4
          have hc4 := (HWA.out _ hk4).1
          have hxb := heap_alloc_new wr (.cells (WC x) 86)
          have HXB := hid hxb
          clear hx hk4 hxb
          go_upto_region 12 with fail
          generalize wr.alloc (.cells (WC x) 86) = wx at *
          generalize wr.heap.size = xb at *
          have e0 : wx.cell? ⟨xb, 0, none⟩ = some (.bool x.neg) := cell_of HXB.out (by rfl)
          have e1 : wx.cell? ⟨xb, 1, none⟩ = some (.int .u64 (x.hi : Int)) := cell_of HXB.out (by rfl)
          have e2 : wx.cell? ⟨xb, 2, none⟩ = some (.int .u64 (x.lo : Int)) := cell_of HXB.out (by rfl)
          go_wp2_with fail
          refine (f_fits kd x hxf _).mono ?_
          rintro r w5 ⟨rfl, hk5⟩
          have HK5 := hid (HK4.out.trans hk5)
          clear hk5 e0 e1 e2 a0 a1 a2 hc4
          cases hfx : fitsB kd x
          · have G : Hid (fitC fs vs = 3) := hid (by rw [HFC.out false (HBAD.out hfx)]; rfl)
            clear hfx
            go_wp2
            go_ret
            exact ⟨by rw [G.out]; rfl, HK3.out.trans HK5.out⟩
          · have G := hid (HN.out hfx)
            clear hfx
            go_wp2
            go_roundw
            case rel =>
              exact ⟨j + 1, by omega, by go_num, HK5.out, G.out⟩
            case measure => simp [intOf]; omega
        · obtain rfl : j = cn := by omega
          have hc5 := (HWA.out _ HKY.out).2
          have G : Hid (fitRun fs vs = fitRun (fs.drop (k + 1)) (rs.drop j)) := hid (by
            rw [HRD2.out]
            have : (rs.take j).all (fitsB kd) = true := by rw [List.all_eq_true]; exact HAL.out
            rw [this]; rfl)
          have hin3 : (0 : Int) ≤ (j : Int) ∧ (j : Int) ≤ (m : Int) := ⟨by omega, by omega⟩
          clear HAL HRD2
          go_wp2
          go_roundw
          case rel =>
            have hmr := HMR.out
            have hsd2 := HSD.out
            by_cases hcj : c' = j
            · rw [if_pos hcj]
              have hnil : rs.drop j = [] := List.drop_of_length_le (by omega)
              exact ⟨k + 1, m - j, _, c' - j, rs.drop j, by omega, by go_num, rfl, by omega, by rw [List.length_drop]; omega, by omega, by omega, fun x hx => HFR.out x (List.mem_of_mem_drop hx), .inl hnil, G.out, HK3.out.trans HKY.out⟩
            · rw [if_neg hcj]
              exact ⟨k + 1, m - j, _, c' - j, rs.drop j, by omega, by go_num, rfl, by omega, by rw [List.length_drop]; omega, by omega, by omega, fun x hx => HFR.out x (List.mem_of_mem_drop hx), HXP.out.drop j, G.out, HK3.out.trans HKY.out⟩
          case measure => simp [intOf]; omega
    · obtain rfl : k = fs.length := by omega
      have G : Hid (fitC fs vs = 0) := hid (by rw [HFC.out true (by rw [HRUN.out, List.drop_length]; rfl)]; rfl)
      go_wp2
      go_ret
      exact ⟨by rw [G.out]; rfl, HK.out⟩

theorem lay_fit (fs : List Fld) (p : Option Addr) (cap : Nat) (vs : List WI) (q : Option Addr) (qc : Nat) (w : World) (hcap : fs.length ≤ cap) (hqc : vs.length ≤ qc) (_hvl : vs.length ≤ 65536) (hfit : ∀ x ∈ vs, x.fit) (hf : FP w w.heap.size p fs) (hv : XP w w.heap.size q vs) :
    Calls Tryz.prog 68 #[.slice p fs.length cap, .slice q vs.length qc] w fun r w' => r = .returned (iV (fitC fs vs)) ∧ Keep (fun _ => False) w w' := lay_fitU fs p cap vs q qc w hcap hqc hfit hf hv
end Go.Proofs.YtlhdofkgcbmnnaaGreat

namespace Go.Proofs.Sch
open Go.RowKit Go.Proofs.Heap Go.Proofs.Wide

/-- An instruction of a formula. -/
structure Ins where
  op : Int
  a : Int
  b : Int
  k : WI
/-- A rule: the new component's id, the old one's, a formula for each field. -/
structure Rul where
  new : Int
  old : Int
  exprs : List (List Ins)

def InsAt (w : World) (b o : Nat) (x : Ins) : Prop := w.cell? ⟨b, o, none⟩ = some (.int .i64 x.op) ∧ w.cell? ⟨b, o + 1, none⟩ = some (.int .i64 x.a) ∧ w.cell? ⟨b, o + 2, none⟩ = some (.int .i64 x.b) ∧
  w.cell? ⟨b, o + 3, none⟩ = some (.bool x.k.neg) ∧ w.cell? ⟨b, o + 4, none⟩ = some (.int .u64 (x.k.hi : Int)) ∧ w.cell? ⟨b, o + 5, none⟩ = some (.int .u64 (x.k.lo : Int))
abbrev IP := RowP 6 InsAt
def ExAt (B : Nat) (w : World) (b o : Nat) (x : List Ins) : Prop := ∃ p k, w.cell? ⟨b, o, none⟩ = some (.slice p x.length k) ∧ x.length ≤ k ∧ IP w B p x
def EP (w : World) (B : Nat) (p : Option Addr) (l : List (List Ins)) : Prop := RowP 1 (ExAt B) w B p l
def RulAt (B : Nat) (w : World) (b o : Nat) (x : Rul) : Prop := w.cell? ⟨b, o, none⟩ = some (.int .i64 x.new) ∧ w.cell? ⟨b, o + 1, none⟩ = some (.int .i64 x.old) ∧
  ∃ p k, w.cell? ⟨b, o + 2, none⟩ = some (.slice p x.exprs.length k) ∧ x.exprs.length ≤ k ∧ EP w B p x.exprs
/-- A row of rules. -/
def UP (w : World) (B : Nat) (p : Option Addr) (l : List Rul) : Prop := RowP 3 (RulAt B) w B p l

section
variable {w w' : World} {B B' : Nat} {p : Option Addr}
theorem IP.low {l : List Ins} (h : IP w B p l) (hl : Low B w w') : IP w' B p l :=
  RowP.imp h (Nat.le_refl _) fun b o x hb hx => ⟨by rw [hl.cell hb]; exact hx.1, by rw [hl.cell hb]; exact hx.2.1, by rw [hl.cell hb]; exact hx.2.2.1, by rw [hl.cell hb]; exact hx.2.2.2.1, by rw [hl.cell hb]; exact hx.2.2.2.2.1, by rw [hl.cell hb]; exact hx.2.2.2.2.2⟩
theorem IP.mono {l : List Ins} (h : IP w B p l) (hB : B ≤ B') : IP w B' p l := RowP.imp h hB fun _ _ _ _ hx => hx
theorem IP.at {l : List Ins} (h : IP w B p l) {i : Nat} {x : Ins} (hi : l[i]? = some x) : ∃ b off, p = some ⟨b, off, none⟩ ∧ b < B ∧ w.cell? ⟨b, off + i * 6, none⟩ = some (.int .i64 x.op) ∧ w.cell? ⟨b, off + i * 6 + 1, none⟩ = some (.int .i64 x.a) ∧ w.cell? ⟨b, off + i * 6 + 2, none⟩ = some (.int .i64 x.b) ∧
    w.cell? ⟨b, off + i * 6 + 3, none⟩ = some (.bool x.k.neg) ∧ w.cell? ⟨b, off + i * 6 + 4, none⟩ = some (.int .u64 (x.k.hi : Int)) ∧ w.cell? ⟨b, off + i * 6 + 5, none⟩ = some (.int .u64 (x.k.lo : Int)) := by
  rcases h with rfl | ⟨b, off, hp, hb, hc⟩
  · simp at hi
  · exact ⟨b, off, hp, hb, hc i x hi⟩
theorem EP.low {l : List (List Ins)} (h : EP w B p l) (hl : Low B w w') : EP w' B p l :=
  RowP.imp h (Nat.le_refl _) fun b o x hb hx => by
    obtain ⟨q, k, h1, h2, h3⟩ := hx
    exact ⟨q, k, by rw [hl.cell hb]; exact h1, h2, IP.low h3 hl⟩
theorem EP.mono {l : List (List Ins)} (h : EP w B p l) (hB : B ≤ B') : EP w B' p l :=
  RowP.imp h hB fun b o x hb hx => by
    obtain ⟨q, k, h1, h2, h3⟩ := hx
    exact ⟨q, k, h1, h2, IP.mono h3 hB⟩
theorem EP.at {l : List (List Ins)} (h : EP w B p l) {i : Nat} {x : List Ins} (hi : l[i]? = some x) : ∃ b off q k, p = some ⟨b, off, none⟩ ∧ b < B ∧ w.cell? ⟨b, off + i, none⟩ = some (.slice q x.length k) ∧ x.length ≤ k ∧ IP w B q x := by
  rcases h with rfl | ⟨b, off, hp, hb, hc⟩
  · simp at hi
  · obtain ⟨q, k, h1, h2, h3⟩ := hc i x hi
    rw [Nat.mul_one] at h1
    exact ⟨b, off, q, k, hp, hb, h1, h2, h3⟩
theorem UP.low {l : List Rul} (h : UP w B p l) (hl : Low B w w') : UP w' B p l :=
  RowP.imp h (Nat.le_refl _) fun b o x hb hx => by
    obtain ⟨h0, h1, q, k, h2, h3, h4⟩ := hx
    exact ⟨by rw [hl.cell hb]; exact h0, by rw [hl.cell hb]; exact h1, q, k, by rw [hl.cell hb]; exact h2, h3, EP.low h4 hl⟩
theorem UP.mono {l : List Rul} (h : UP w B p l) (hB : B ≤ B') : UP w B' p l :=
  RowP.imp h hB fun b o x hb hx => by
    obtain ⟨h0, h1, q, k, h2, h3, h4⟩ := hx
    exact ⟨h0, h1, q, k, h2, h3, EP.mono h4 hB⟩
theorem UP.at {l : List Rul} (h : UP w B p l) {i : Nat} {x : Rul} (hi : l[i]? = some x) : ∃ b off q k, p = some ⟨b, off, none⟩ ∧ b < B ∧ w.cell? ⟨b, off + i * 3, none⟩ = some (.int .i64 x.new) ∧ w.cell? ⟨b, off + i * 3 + 1, none⟩ = some (.int .i64 x.old) ∧
    w.cell? ⟨b, off + i * 3 + 2, none⟩ = some (.slice q x.exprs.length k) ∧ x.exprs.length ≤ k ∧ EP w B q x.exprs := by
  rcases h with rfl | ⟨b, off, hp, hb, hc⟩
  · simp at hi
  · obtain ⟨h0, h1, q, k, h2, h3, h4⟩ := hc i x hi
    exact ⟨b, off, q, k, hp, hb, h0, h1, h2, h3, h4⟩
end
end Go.Proofs.Sch

namespace Go.Proofs.YtlhdofkgcbmnnaaGreat
open Go.RowKit Go.Proofs.Heap Go.Proofs.Sch Go.Proofs.Wide

abbrev InV (x : Ins) : Value := .agg #[.int .i64 x.op, .int .i64 x.a, .int .i64 x.b, .bool x.k.neg, .int .u64 (x.k.hi : Int), .int .u64 (x.k.lo : Int)]
abbrev InC (x : Ins) : Array Value := #[.int .i64 x.op, .int .i64 x.a, .int .i64 x.b, .bool x.k.neg, .int .u64 (x.k.hi : Int), .int .u64 (x.k.lo : Int)]
/-- Whether an instruction can be. -/
def insB (x : Ins) : Bool := decide (1 ≤ x.op ∧ x.op ≤ 17) && (x.k.form && decide (0 ≤ x.a ∧ 0 ≤ x.b ∧ x.a < 8 ∧ x.b < 8))
/-- How many numbers an instruction takes. -/
def argsN (op : Int) : Nat := if op = 1 ∨ op = 2 ∨ op = 3 ∨ op = 4 then 0 else if op = 10 ∨ op = 15 then 1 else if op = 16 then 3 else 2

set_option maxRecDepth 20000 in
set_option maxHeartbeats 4000000 in
theorem is_ins (x : Ins) (hx : x.k.fit) (w : World) : Calls Tryz.prog 146 #[InV x] w fun r w' => r = .returned (.bool (insB x)) ∧ Keep (fun _ => False) w w' := by
  obtain ⟨op, a, b, ⟨kn, kh, kl⟩⟩ := x
  have HB := hid (heap_alloc_new w (.cells #[.int .i64 op, .int .i64 a, .int .i64 b, .bool kn, .int .u64 (kh : Int), .int .u64 (kl : Int)] 88))
  have HK := hid ((Keep.refl (fun _ => False) w).alloc (.cells #[.int .i64 op, .int .i64 a, .int .i64 b, .bool kn, .int .u64 (kh : Int), .int .u64 (kl : Int)] 88))
  have HX := hid hx
  have hib : insB ⟨op, a, b, ⟨kn, kh, kl⟩⟩ = (decide (1 ≤ op ∧ op ≤ 17) && (WI.form ⟨kn, kh, kl⟩ && decide (0 ≤ a ∧ 0 ≤ b ∧ a < 8 ∧ b < 8))) := rfl
  have HI := hid hib
  clear hib hx
  go_enter Tryz.func146, Tryz.ntmps146
  go_upto_region 1 with fail
  generalize w.alloc (.cells #[.int .i64 op, .int .i64 a, .int .i64 b, .bool kn, .int .u64 (kh : Int), .int .u64 (kl : Int)] 88) = w1 at *
  generalize w.heap.size = sb at *
  have HW : Hid (∀ wy, Keep (fun _ => False) w1 wy → wy.cell? ⟨sb, 0, none⟩ = some (.int .i64 op) ∧ wy.cell? ⟨sb, 1, none⟩ = some (.int .i64 a) ∧ wy.cell? ⟨sb, 2, none⟩ = some (.int .i64 b) ∧ wy.cell? ⟨sb, 3, none⟩ = some (.bool kn) ∧ wy.cell? ⟨sb, 4, none⟩ = some (.int .u64 (kh : Int)) ∧ wy.cell? ⟨sb, 5, none⟩ = some (.int .u64 (kl : Int))) := hid (fun wy hk =>
    ⟨cell_of (hk.get HB.out id) (by rfl), cell_of (hk.get HB.out id) (by rfl), cell_of (hk.get HB.out id) (by rfl), cell_of (hk.get HB.out id) (by rfl), cell_of (hk.get HB.out id) (by rfl), cell_of (hk.get HB.out id) (by rfl)⟩)
  obtain ⟨s0, s1, s2, s3, s4, s5⟩ := HW.out _ (Keep.refl _ _)
  by_cases h1 : 1 ≤ op
  rotate_left
  · have g1 : decide (1 ≤ op) = false := decide_eq_false h1
    have G : Hid (decide (1 ≤ op ∧ op ≤ 17) = false) := hid (decide_eq_false (fun h => h1 h.1))
    go_wp2
    go_ret
    exact ⟨by rw [HI.out, G.out]; rfl, HK.out⟩
  have g1 : decide (1 ≤ op) = true := decide_eq_true h1
  by_cases h2 : op ≤ 17
  rotate_left
  · have g2 : decide (op ≤ 17) = false := decide_eq_false h2
    have G : Hid (decide (1 ≤ op ∧ op ≤ 17) = false) := hid (decide_eq_false (fun h => h2 h.2))
    go_wp2
    go_ret
    exact ⟨by rw [HI.out, G.out]; rfl, HK.out⟩
  have g2 : decide (op ≤ 17) = true := decide_eq_true h2
  have GO : Hid (decide (1 ≤ op ∧ op ≤ 17) = true) := hid (decide_eq_true ⟨h1, h2⟩)
  go_wp2_with fail
  refine (w_form ⟨kn, kh, kl⟩ HX.out _).mono ?_
  rintro r w2 ⟨rfl, hk2⟩
  have HK2 := hid hk2
  clear hk2 s0 s1 s2 s3 s4 s5 g1 g2 h1 h2
  cases hfm : WI.form ⟨kn, kh, kl⟩
  · have HFM := hid hfm
    clear hfm
    go_wp2
    go_ret
    exact ⟨by rw [HI.out, HFM.out, GO.out]; rfl, HK.out.trans HK2.out⟩
  have HFM := hid hfm
  clear hfm
  obtain ⟨s0, s1, s2, s3, s4, s5⟩ := HW.out _ HK2.out
  rcases Int.lt_trichotomy a b with hab | hab | hab
  · have hle : a ≤ b := by omega
    have hnb : ¬ b < a := by omega
    have hnl : ¬ b ≤ a := by omega
    by_cases hlo : 0 ≤ a
    · have q1 : decide (0 ≤ a) = true := decide_eq_true hlo
      by_cases hhi : b < 8
      · have q2 : decide (b < 8) = true := decide_eq_true hhi
        have G : Hid (decide (0 ≤ a ∧ 0 ≤ b ∧ a < 8 ∧ b < 8) = true) := hid (decide_eq_true (by omega))
        go_wp2
        go_ret
        exact ⟨by rw [HI.out, HFM.out, GO.out, G.out]; rfl, HK.out.trans HK2.out⟩
      · have q2 : decide (b < 8) = false := decide_eq_false hhi
        have G : Hid (decide (0 ≤ a ∧ 0 ≤ b ∧ a < 8 ∧ b < 8) = false) := hid (decide_eq_false (by omega))
        go_wp2
        go_ret
        exact ⟨by rw [HI.out, HFM.out, GO.out, G.out]; rfl, HK.out.trans HK2.out⟩
    · have q1 : decide (0 ≤ a) = false := decide_eq_false hlo
      have G : Hid (decide (0 ≤ a ∧ 0 ≤ b ∧ a < 8 ∧ b < 8) = false) := hid (decide_eq_false (by omega))
      go_wp2
      go_ret
      exact ⟨by rw [HI.out, HFM.out, GO.out, G.out]; rfl, HK.out.trans HK2.out⟩
  · subst hab
    have hle : a ≤ a := Int.le_refl _
    have hnb : ¬ a < a := by omega
    by_cases hlo : 0 ≤ a
    · have q1 : decide (0 ≤ a) = true := decide_eq_true hlo
      by_cases hhi : a < 8
      · have q2 : decide (a < 8) = true := decide_eq_true hhi
        have G : Hid (decide (0 ≤ a ∧ 0 ≤ a ∧ a < 8 ∧ a < 8) = true) := hid (decide_eq_true (by omega))
        go_wp2
        go_ret
        exact ⟨by rw [HI.out, HFM.out, GO.out, G.out]; rfl, HK.out.trans HK2.out⟩
      · have q2 : decide (a < 8) = false := decide_eq_false hhi
        have G : Hid (decide (0 ≤ a ∧ 0 ≤ a ∧ a < 8 ∧ a < 8) = false) := hid (decide_eq_false (by omega))
        go_wp2
        go_ret
        exact ⟨by rw [HI.out, HFM.out, GO.out, G.out]; rfl, HK.out.trans HK2.out⟩
    · have q1 : decide (0 ≤ a) = false := decide_eq_false hlo
      have G : Hid (decide (0 ≤ a ∧ 0 ≤ a ∧ a < 8 ∧ a < 8) = false) := hid (decide_eq_false (by omega))
      go_wp2
      go_ret
      exact ⟨by rw [HI.out, HFM.out, GO.out, G.out]; rfl, HK.out.trans HK2.out⟩
  · have hle : b ≤ a := by omega
    have hnb : ¬ a < b := by omega
    have hnl : ¬ a ≤ b := by omega
    by_cases hlo : 0 ≤ b
    · have q1 : decide (0 ≤ b) = true := decide_eq_true hlo
      by_cases hhi : a < 8
      · have q2 : decide (a < 8) = true := decide_eq_true hhi
        have G : Hid (decide (0 ≤ a ∧ 0 ≤ b ∧ a < 8 ∧ b < 8) = true) := hid (decide_eq_true (by omega))
        go_wp2
        go_ret
        exact ⟨by rw [HI.out, HFM.out, GO.out, G.out]; rfl, HK.out.trans HK2.out⟩
      · have q2 : decide (a < 8) = false := decide_eq_false hhi
        have G : Hid (decide (0 ≤ a ∧ 0 ≤ b ∧ a < 8 ∧ b < 8) = false) := hid (decide_eq_false (by omega))
        go_wp2
        go_ret
        exact ⟨by rw [HI.out, HFM.out, GO.out, G.out]; rfl, HK.out.trans HK2.out⟩
    · have q1 : decide (0 ≤ b) = false := decide_eq_false hlo
      have G : Hid (decide (0 ≤ a ∧ 0 ≤ b ∧ a < 8 ∧ b < 8) = false) := hid (decide_eq_false (by omega))
      go_wp2
      go_ret
      exact ⟨by rw [HI.out, HFM.out, GO.out, G.out]; rfl, HK.out.trans HK2.out⟩

set_option maxRecDepth 20000 in
set_option maxHeartbeats 4000000 in
theorem args_of (x : Ins) (w : World) : Calls Tryz.prog 105 #[InV x] w fun r w' => r = .returned (.int .i64 (argsN x.op : Int)) ∧ Keep (fun _ => False) w w' := by
  obtain ⟨op, a, b, ⟨kn, kh, kl⟩⟩ := x
  have HB := hid (heap_alloc_new w (.cells #[.int .i64 op, .int .i64 a, .int .i64 b, .bool kn, .int .u64 (kh : Int), .int .u64 (kl : Int)] 88))
  have HK := hid ((Keep.refl (fun _ => False) w).alloc (.cells #[.int .i64 op, .int .i64 a, .int .i64 b, .bool kn, .int .u64 (kh : Int), .int .u64 (kl : Int)] 88))
  simp only
  go_enter Tryz.func105, Tryz.ntmps105
  go_upto_region 1 with fail
  generalize w.alloc (.cells #[.int .i64 op, .int .i64 a, .int .i64 b, .bool kn, .int .u64 (kh : Int), .int .u64 (kl : Int)] 88) = w1 at *
  generalize w.heap.size = sb at *
  have s0 : w1.cell? ⟨sb, 0, none⟩ = some (.int .i64 op) := cell_of HB.out (by rfl)
  by_cases h1 : op = 1
  · subst h1; go_wp2; go_ret; exact ⟨rfl, HK.out⟩
  by_cases h2 : op = 2
  · subst h2; go_wp2; go_ret; exact ⟨rfl, HK.out⟩
  by_cases h3 : op = 3
  · subst h3; go_wp2; go_ret; exact ⟨rfl, HK.out⟩
  by_cases h4 : op = 4
  · subst h4; go_wp2; go_ret; exact ⟨rfl, HK.out⟩
  by_cases h10 : op = 10
  · subst h10; go_wp2; go_ret; exact ⟨rfl, HK.out⟩
  by_cases h15 : op = 15
  · subst h15; go_wp2; go_ret; exact ⟨rfl, HK.out⟩
  by_cases h16 : op = 16
  · subst h16; go_wp2; go_ret; exact ⟨rfl, HK.out⟩
  have g1 : (op == 1) = false := beq_eq_false_iff_ne.2 h1
  have g2 : (op == 2) = false := beq_eq_false_iff_ne.2 h2
  have g3 : (op == 3) = false := beq_eq_false_iff_ne.2 h3
  have g4 : (op == 4) = false := beq_eq_false_iff_ne.2 h4
  have g10 : (op == 10) = false := beq_eq_false_iff_ne.2 h10
  have g15 : (op == 15) = false := beq_eq_false_iff_ne.2 h15
  have g16 : (op == 16) = false := beq_eq_false_iff_ne.2 h16
  have G : Hid (argsN op = 2) := hid (by unfold argsN; rw [if_neg (by omega), if_neg (by omega), if_neg h16])
  clear h1 h2 h3 h4 h10 h15 h16
  go_wp2
  go_ret
  exact ⟨by rw [G.out]; rfl, HK.out⟩
end Go.Proofs.YtlhdofkgcbmnnaaGreat

namespace Go.Proofs.YtlhdofkgcbmnnaaGreat
open Go.RowKit Go.Proofs.Heap Go.Proofs.Sch Go.Proofs.Wide

/-- The error of the instructions that are left, n numbers being there. -/
def exprRun : Nat → List Ins → Nat
  | n, [] => if n = 1 then 0 else 4
  | n, x :: r => if insB x = false ∨ n < argsN x.op then 4 else if 16 < n - argsN x.op + 1 then 4 else exprRun (n - argsN x.op + 1) r
/-- The error of a formula. -/
def exprC (code : List Ins) : Nat := if 64 < code.length then 5 else exprRun 0 code
theorem exprRun_cons (n : Nat) (x : Ins) (r : List Ins) : exprRun n (x :: r) = if insB x = false ∨ n < argsN x.op then 4 else if 16 < n - argsN x.op + 1 then 4 else exprRun (n - argsN x.op + 1) r := rfl
theorem argsN_le (op : Int) : argsN op ≤ 3 := by
  unfold argsN
  repeat' split
  all_goals omega

set_option maxRecDepth 20000 in
set_option maxHeartbeats 4000000 in
theorem expr_check (code : List Ins) (p : Option Addr) (cap : Nat) (w : World) (hfit : ∀ x ∈ code, x.k.fit) (hf : IP w w.heap.size p code) :
    Calls Tryz.prog 103 #[.slice p code.length cap] w fun r w' => r = .returned (iV (exprC code)) ∧ Keep (fun _ => False) w w' := by
  have HF := hid hf; have HX := hid hfit
  clear hf hfit
  go_enter Tryz.func103, Tryz.ntmps103
  by_cases hl : 64 < code.length
  · have g1 : decide ((64 : Int) < (code.length : Int)) = true := decide_eq_true (by omega)
    have g2 : decide (64 < code.length) = true := decide_eq_true hl
    have G : Hid (exprC code = 5) := hid (by unfold exprC; rw [if_pos hl])
    go_wp2
    go_ret
    exact ⟨by rw [G.out]; rfl, Keep.refl _ _⟩
  have g1 : decide ((64 : Int) < (code.length : Int)) = false := decide_eq_false (by omega)
  have g2 : decide (64 < code.length) = false := decide_eq_false hl
  have HE : Hid (exprC code = exprRun 0 code) := hid (by unfold exprC; rw [if_neg hl])
  go_wp2_with fail
  clear g1 g2
  go_loopw [3, 5, 11] (fun n _ i wr => ∃ k m : Nat, k ≤ code.length ∧ i = iV k ∧ n = iV m ∧ m ≤ 16 ∧ exprC code = exprRun m (code.drop k) ∧ Keep (fun _ => False) w wr) (fun _ _ i _ => code.length + 1 - (intOf i).toNat)
  case atStart => exact ⟨0, 0, Nat.zero_le _, rfl, rfl, by omega, HE.out, Keep.refl _ _⟩
  case round =>
    clear HE
    obtain ⟨k, m, hk, rfl, rfl, hm16, heq, hkr⟩ := hrel
    have HEQ := hid heq; have HKR := hid hkr
    clear heq hkr
    by_cases hlt : k < code.length
    · obtain ⟨x, hxk⟩ : ∃ x, code[k]? = some x := ⟨code[k], by simp [hlt]⟩
      have HEX := hid (show exprC code = if insB x = false ∨ m < argsN x.op then 4 else if 16 < m - argsN x.op + 1 then 4 else exprRun (m - argsN x.op + 1) (code.drop (k + 1)) by
        rw [HEQ.out, drop_next hxk, exprRun_cons])
      have HXF := hid (HX.out x (List.mem_of_getElem? hxk))
      have han := argsN_le x.op
      obtain ⟨b, off, rfl, hb, c0, c1, c2, c3, c4, c5⟩ := IP.at (IP.low HF.out (Low.keep0 HKR.out)) hxk
      have hin : (0 : Int) ≤ (k : Int) ∧ (k : Int) < (code.length : Int) := ⟨by omega, by omega⟩
      clear hxk hb HEQ
      obtain ⟨op, xa, xb, ⟨kn, kh, kl⟩⟩ := x
      simp only at c0 c1 c2 c3 c4 c5 HEX HXF han
      have HBX := hid (heap_alloc_new wr (.cells #[.int .i64 op, .int .i64 xa, .int .i64 xb, .bool kn, .int .u64 (kh : Int), .int .u64 (kl : Int)] 88))
      have HK1 := hid (HKR.out.alloc (.cells #[.int .i64 op, .int .i64 xa, .int .i64 xb, .bool kn, .int .u64 (kh : Int), .int .u64 (kl : Int)] 88))
      go_upto_region 7 with fail
      generalize wr.alloc (.cells #[.int .i64 op, .int .i64 xa, .int .i64 xb, .bool kn, .int .u64 (kh : Int), .int .u64 (kl : Int)] 88) = w1 at *
      generalize wr.heap.size = sb at *
      clear c0 c1 c2 c3 c4 c5
      have HW : Hid (∀ wy, Keep (fun _ => False) w1 wy → wy.cell? ⟨sb, 0, none⟩ = some (.int .i64 op) ∧ wy.cell? ⟨sb, 1, none⟩ = some (.int .i64 xa) ∧ wy.cell? ⟨sb, 2, none⟩ = some (.int .i64 xb) ∧ wy.cell? ⟨sb, 3, none⟩ = some (.bool kn) ∧ wy.cell? ⟨sb, 4, none⟩ = some (.int .u64 (kh : Int)) ∧ wy.cell? ⟨sb, 5, none⟩ = some (.int .u64 (kl : Int))) := hid (fun wy hk =>
        ⟨cell_of (hk.get HBX.out id) (by rfl), cell_of (hk.get HBX.out id) (by rfl), cell_of (hk.get HBX.out id) (by rfl), cell_of (hk.get HBX.out id) (by rfl), cell_of (hk.get HBX.out id) (by rfl), cell_of (hk.get HBX.out id) (by rfl)⟩)
      obtain ⟨s0, s1, s2, s3, s4, s5⟩ := HW.out _ (Keep.refl _ _)
      go_wp2_with fail
      refine (is_ins ⟨op, xa, xb, ⟨kn, kh, kl⟩⟩ HXF.out _).mono ?_
      rintro r w2 ⟨rfl, hk2⟩
      have HK2 := hid hk2
      clear hk2 s0 s1 s2 s3 s4 s5
      cases hib : insB ⟨op, xa, xb, ⟨kn, kh, kl⟩⟩
      · have G : Hid (exprC code = 4) := hid (by rw [HEX.out, if_pos (.inl hib)])
        clear hib
        go_wp2
        go_ret
        exact ⟨by rw [G.out]; rfl, HK1.out.trans HK2.out⟩
      have HIB := hid hib
      clear hib
      obtain ⟨s0, s1, s2, s3, s4, s5⟩ := HW.out _ HK2.out
      go_wp2_with fail
      refine (args_of ⟨op, xa, xb, ⟨kn, kh, kl⟩⟩ _).mono ?_
      rintro r w3 ⟨rfl, hk3⟩
      have HK3 := hid (HK2.out.trans hk3)
      clear hk3 s0 s1 s2 s3 s4 s5
      generalize hga : argsN op = ar at *
      have HGA := hid hga
      clear hga
      by_cases hma : m < ar
      · have g1 : decide ((m : Int) < (ar : Int)) = true := decide_eq_true (by omega)
        have g2 : decide (m < ar) = true := decide_eq_true hma
        have G : Hid (exprC code = 4) := hid (by rw [HEX.out, if_pos (.inr hma)])
        go_wp2
        go_ret
        exact ⟨by rw [G.out]; rfl, HK1.out.trans HK3.out⟩
      have g1 : decide ((m : Int) < (ar : Int)) = false := decide_eq_false (by omega)
      have g2 : decide (m < ar) = false := decide_eq_false hma
      obtain ⟨s0, s1, s2, s3, s4, s5⟩ := HW.out _ HK3.out
      go_wp2_with fail
      refine (args_of ⟨op, xa, xb, ⟨kn, kh, kl⟩⟩ _).mono ?_
      rintro r w4 ⟨rfl, hk4⟩
      have HK4 := hid (HK3.out.trans hk4)
      clear hk4 s0 s1 s2 s3 s4 s5 g1 g2
      rw [show argsN (⟨op, xa, xb, ⟨kn, kh, kl⟩⟩ : Ins).op = ar from HGA.out]
      obtain ⟨d, hd⟩ : ∃ d : Nat, m - ar + 1 = d := ⟨_, rfl⟩
      have hd1 : (m : Int) + (1 - (ar : Int)) = (d : Int) := by omega
      have hdn : ¬ (insB ⟨op, xa, xb, ⟨kn, kh, kl⟩⟩ = false ∨ m < ar) := by rw [HIB.out]; simp; omega
      have HD := hid (show exprC code = if 16 < d then 4 else exprRun d (code.drop (k + 1)) by rw [HEX.out, if_neg hdn, hd])
      have hd17 : d ≤ 17 := by omega
      have hd2 : wrap64 ((m : Int) + wrap64 (1 - (ar : Int))) = (d : Int) := by unfold wrap64; omega
      have hd3 : wrap64 ((m : Int) + (1 - (ar : Int))) = (d : Int) := by unfold wrap64; omega
      clear hd hdn HEX
      by_cases hbig : 16 < d
      · have g1 : decide ((16 : Int) < (d : Int)) = true := decide_eq_true (by omega)
        have g2 : decide (16 < d) = true := decide_eq_true hbig
        have G : Hid (exprC code = 4) := hid (by rw [HD.out, if_pos hbig])
        go_wp2
        go_ret
        exact ⟨by rw [G.out]; rfl, HK1.out.trans HK4.out⟩
      have g1 : decide ((16 : Int) < (d : Int)) = false := decide_eq_false (by omega)
      have g2 : decide (16 < d) = false := decide_eq_false hbig
      have G := hid (show exprC code = exprRun d (code.drop (k + 1)) by rw [HD.out, if_neg hbig])
      go_wp2
      go_roundw
      case rel => exact ⟨k + 1, d, by omega, by go_num, rfl, by omega, G.out, HK1.out.trans HK4.out⟩
      case measure => simp [intOf]; omega
    · obtain rfl : k = code.length := by omega
      have G : Hid (exprC code = if m = 1 then 0 else 4) := hid (by rw [HEQ.out, List.drop_length]; rfl)
      have g0 : decide ((code.length : Int) < (code.length : Int)) = false := decide_eq_false (by omega)
      by_cases h1 : m = 1
      · subst h1
        go_wp2
        go_ret
        exact ⟨by rw [G.out]; rfl, HKR.out⟩
      · have g1 : ((m : Int) != 1) = true := by simp only [bne, beq_eq_false_iff_ne.2 (show (m : Int) ≠ 1 by omega)]; rfl
        have g2 : (m != 1) = true := by simp only [bne, beq_eq_false_iff_ne.2 h1]; rfl
        have G2 : Hid (exprC code = 4) := hid (by rw [G.out, if_neg h1])
        go_wp2
        go_ret
        exact ⟨by rw [G2.out]; rfl, HKR.out⟩
end Go.Proofs.YtlhdofkgcbmnnaaGreat

namespace Go.Proofs.YtlhdofkgcbmnnaaGreat
open Go.RowKit Go.Proofs.Heap Go.Proofs.Sch

theorem box1 (w : World) (c1 : Array Value) (t1 : TypeId) : ∃ w1, w1 = w.alloc (.cells c1 t1) ∧ w1.heap[w.heap.size]? = some (.cells c1 t1 (0, 0)) ∧ w1.heap.size = w.heap.size + 1 ∧ Keep (fun _ => False) w w1 :=
  ⟨_, rfl, heap_alloc_new w _, by simp, (Keep.refl _ w).alloc _⟩
theorem box2 (w : World) (c1 c2 : Array Value) (t1 t2 : TypeId) : ∃ w2, w2 = (w.alloc (.cells c1 t1)).alloc (.cells c2 t2) ∧ w2.heap[w.heap.size]? = some (.cells c1 t1 (0, 0)) ∧ w2.heap[w.heap.size + 1]? = some (.cells c2 t2 (0, 0)) ∧ w2.heap.size = w.heap.size + 2 ∧ Keep (fun _ => False) w w2 := by
  obtain ⟨w1, h1, h2, h3, h4⟩ := box1 w c1 t1
  obtain ⟨w2, k1, k2, k3, k4⟩ := box1 w1 c2 t2
  subst h1
  exact ⟨w2, k1, k4.get h2 id, by rw [← h3]; exact k2, by omega, h4.trans k4⟩
theorem box3 (w : World) (c1 c2 c3 : Array Value) (t1 t2 t3 : TypeId) : ∃ w3, w3 = ((w.alloc (.cells c1 t1)).alloc (.cells c2 t2)).alloc (.cells c3 t3) ∧ w3.heap[w.heap.size]? = some (.cells c1 t1 (0, 0)) ∧ w3.heap[w.heap.size + 1]? = some (.cells c2 t2 (0, 0)) ∧ w3.heap[w.heap.size + 1 + 1]? = some (.cells c3 t3 (0, 0)) ∧ w3.heap.size = w.heap.size + 3 ∧ Keep (fun _ => False) w w3 := by
  obtain ⟨w2, h1, h2, h3, h4, h5⟩ := box2 w c1 c2 t1 t2
  obtain ⟨w3, k1, k2, k3, k4⟩ := box1 w2 c3 t3
  subst h1
  exact ⟨w3, k1, k4.get h2 id, k4.get h3 id, by rw [← h4]; exact k2, by omega, h5.trans k4⟩
theorem box4 (w : World) (c1 c2 c3 c4 : Array Value) (t1 t2 t3 t4 : TypeId) : ∃ w4, w4 = (((w.alloc (.cells c1 t1)).alloc (.cells c2 t2)).alloc (.cells c3 t3)).alloc (.cells c4 t4) ∧ w4.heap[w.heap.size]? = some (.cells c1 t1 (0, 0)) ∧ w4.heap[w.heap.size + 1]? = some (.cells c2 t2 (0, 0)) ∧ w4.heap[w.heap.size + 1 + 1]? = some (.cells c3 t3 (0, 0)) ∧ w4.heap[w.heap.size + 1 + 1 + 1]? = some (.cells c4 t4 (0, 0)) ∧ w4.heap.size = w.heap.size + 4 ∧ Keep (fun _ => False) w w4 := by
  obtain ⟨w3, h1, h2, h3, h4, h5, h6⟩ := box3 w c1 c2 c3 t1 t2 t3
  obtain ⟨w4, k1, k2, k3, k4⟩ := box1 w3 c4 t4
  subst h1
  exact ⟨w4, k1, k4.get h2 id, k4.get h3 id, k4.get h4 id, by rw [← show _ = w.heap.size + 1 + 1 + 1 from h5]; exact k2, by omega, h6.trans k4⟩

theorem box5 (w : World) (c1 c2 c3 c4 c5 : Array Value) (t1 t2 t3 t4 t5 : TypeId) : ∃ w5, w5 = ((((w.alloc (.cells c1 t1)).alloc (.cells c2 t2)).alloc (.cells c3 t3)).alloc (.cells c4 t4)).alloc (.cells c5 t5) ∧ w5.heap[w.heap.size]? = some (.cells c1 t1 (0, 0)) ∧ w5.heap[w.heap.size + 1]? = some (.cells c2 t2 (0, 0)) ∧ w5.heap[w.heap.size + 1 + 1]? = some (.cells c3 t3 (0, 0)) ∧ w5.heap[w.heap.size + 1 + 1 + 1]? = some (.cells c4 t4 (0, 0)) ∧ w5.heap[w.heap.size + 1 + 1 + 1 + 1]? = some (.cells c5 t5 (0, 0)) ∧ w5.heap.size = w.heap.size + 5 ∧ Keep (fun _ => False) w w5 := by
  obtain ⟨w4, h1, h2, h3, h4, h5, h6, h7⟩ := box4 w c1 c2 c3 c4 t1 t2 t3 t4
  obtain ⟨w5, k1, k2, k3, k4⟩ := box1 w4 c5 t5
  subst h1
  exact ⟨w5, k1, k4.get h2 id, k4.get h3 id, k4.get h4 id, k4.get h5 id, by rw [← show _ = w.heap.size + 1 + 1 + 1 + 1 from h6]; exact k2, by omega, h7.trans k4⟩
end Go.Proofs.YtlhdofkgcbmnnaaGreat
