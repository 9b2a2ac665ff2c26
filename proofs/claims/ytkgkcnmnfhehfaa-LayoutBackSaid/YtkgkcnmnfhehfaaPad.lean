/- What is proved: the layout's padding: noughts up to a place, written to the builder. -/
import Derived.Test.YtkgkcnmnfhehfaaBld
namespace Go.Proofs.Ytkgkcnmnfhehfaa
open Go.RowKit Go.Proofs.Heap Go.Proofs.Sch Go.Lib

theorem cells_str (l : List UInt8) : Lib.strCells ⟨l.toArray⟩ = Lib.byteCells l := rfl
theorem cells_app (a b : List UInt8) : Lib.byteCells (a ++ b) = Lib.byteCells a ++ Lib.byteCells b := List.map_append
theorem cells_len (a : List UInt8) : (Lib.byteCells a).length = a.length := List.length_map _
theorem repeat_one (c : Nat) : Lib.repeatL [(0 : UInt8)] c = List.replicate c 0 := by
  induction c with
  | zero => rfl
  | succ n ih => rw [Lib.repeatL, ih]; rfl
/-- Noughts up to a place. -/
def padL (l : List UInt8) (m : Nat) : List UInt8 := l ++ List.replicate (m - l.length) 0

/-- What a builder's change leaves: blocks below, and all that are no bytes. -/
structure Wrote (b : Nat) (w w' : World) : Prop where
  low : Below b w w'
  others : Lib.OthersKept 5 (some b) w w'
theorem Wrote.trans {b : Nat} {w w' w'' : World} (h : Wrote b w w') (k : Wrote b w' w'') : Wrote b w w'' :=
  ⟨⟨by rw [k.low.os, h.low.os], by rw [k.low.tape, h.low.tape], by rw [k.low.output, h.low.output], Nat.le_trans h.low.size k.low.size, fun i hi => by rw [k.low.block i hi, h.low.block i hi]⟩, h.others.trans k.others⟩
theorem Wrote.of_keep {b : Nat} {w w' : World} (hb : b ≤ w.heap.size) (k : Keep (fun _ => False) w w') : Wrote b w w' :=
  ⟨⟨k.os, k.tape, k.output, k.size, fun i hi => k.block i (Nat.lt_of_lt_of_le hi hb) id⟩, fun _ _ hi _ _ => k.get hi id⟩
theorem Wrote.keep {w w1 w2 : World} (h : Keep (fun _ => False) w w1) (k : Wrote w.heap.size w1 w2) : Keep (fun _ => False) w w2 :=
  ⟨by rw [k.low.os, h.os], by rw [k.low.tape, h.tape], by rw [k.low.output, h.output], Nat.le_trans h.size k.low.size, fun i hi _ => by rw [k.low.block i hi, h.block i hi id]⟩

set_option maxRecDepth 20000 in
set_option maxHeartbeats 8000000 in
theorem pad_of (b : Nat) (l : List UInt8) (m : Nat) (w : World) (h : Built b b (Lib.byteCells l) w) (hle : l.length ≤ m) (hto : m ≤ 4096) (hbw : b ≤ w.heap.size) :
    Calls Try.prog 28 #[.int .i64 (m : Int), .pointer (some ⟨b, 0, none⟩)] w fun r w' => r = .returned (.tuple #[]) ∧ BuiltA b b (Lib.byteCells (padL l m)) w' ∧ Wrote b w w' := by
  have H := hid h; have HL := hid hle; have HT := hid hto; have HB := hid hbw
  clear h hbw
  go_enter Try.func28, Try.ntmps28
  go_wp2_with fail
  refine (Try.Builder_Len_f b b _ _ H.out).mono ?_
  rintro r w_ ⟨rfl, rfl⟩
  rw [cells_len]
  obtain ⟨c, hc⟩ : ∃ c, m - l.length = c := ⟨_, rfl⟩
  have hsub : ((m : Int) - (l.length : Int)) = (c : Int) := by omega
  have HC : Hid (m - l.length = c) := hid hc
  have hc4 : c ≤ 4096 := by omega
  have HPL : Hid (padL l m = l ++ List.replicate c 0) := hid (by unfold padL; rw [hc])
  obtain ⟨ln, hln⟩ : ∃ ln, l.length = ln := ⟨_, rfl⟩
  rw [hln] at hsub ⊢
  have HLN := hid hln
  rw [hln] at hle
  clear hc hln
  go_wp2_with fail
  refine (Try.strings_Repeat ⟨#[0]⟩ c _ (by omega) (by show 1 * c ≤ _; omega)).mono ?_
  rintro r w2 ⟨rfl, hb2⟩
  have hk2 : Keep (fun _ => False) w_ w2 := Keep.of_below hb2
  have e : Lib.repeatL (⟨#[0]⟩ : ByteArray).data.toList c = List.replicate c 0 := repeat_one c
  rw [e]
  have HW2 := hid (Wrote.of_keep HB.out hk2)
  have HB2 : Hid (b ≤ w2.heap.size) := hid (Nat.le_trans HB.out hk2.size)
  have H2 : Hid (Built b b (Lib.byteCells l) w2) := hid (H.out.elim (fun h => .inl (Built.keep0 h hk2)) (fun h => .inr (Built.keep0 h hk2)))
  clear hb2 hk2 e
  go_wp2_with fail
  refine (bld_write b b _ _ _ H2.out (by rw [cells_len]; show l.length + (List.replicate c (0 : UInt8)).toArray.size ≤ _; simp; have := HLN.out; omega) HB2.out).mono ?_
  rintro r w3 ⟨rfl, h3, hb3, ho3⟩
  have H3 := hid h3
  have HW3 := hid (HW2.out.trans ⟨hb3, ho3⟩)
  clear h3 hb3 ho3
  go_wp2
  go_end0
  refine ⟨rfl, ?_, HW3.out⟩
  rw [HPL.out, cells_app]
  exact H3.out
end Go.Proofs.Ytkgkcnmnfhehfaa
