/- What is proved: strings.Builder's Len and String, strings.Repeat: contracts of the shelf, laid at this program (written by the shelf's own tools in their plain mode). -/
import Derived.Shelf.Strings.Builder1
import Derived.Shelf.Strings.Builder2
import Derived.Shelf.Strings.BuilderF
import Derived.Shelf.Strings.BuilderK
import Derived.Shelf.Strings.Repeat
import Derived.Test.YtkgkcnmnfhehfaaProg
import Derived.Test.YtkgkcnmnfhehfaaMMapStr
import Derived.Test.YtkgkcnmnfhehfaaMHeap
import Derived.Test.YtkgkcnmnfhehfaaMFget
namespace Go.Proofs
open Go.Shelf
def Try.lays170_ren : Go.Shelf.Ren := ⟨fun | 170 => 31 | n => n, fun | 70 => 68 | 3 => 3 | 0 => 0 | 72 => 71 | 37 => 69 | 5 => 5 | n => n, fun | n => n⟩
theorem Try.lays170 : Go.Proofs.Lays.n170 Try.prog Try.lays170_ren := {
  mixed := by kernel_rfl
  f170 := Try.func31.trans (congrArg some (by kernel_rfl))
  t0 := Try.underlying0
  a0 := Try.isAgg0
  z0 := Try.sizeOf0
  v0 := Try.zeroValue0
  t3 := Try.underlying3
  a3 := Try.isAgg3
  z3 := Try.sizeOf3
  v3 := Try.zeroValue3
  t37 := Try.underlying69
  a37 := Try.isAgg69
  z37 := Try.sizeOf69
  v37 := Try.zeroValue69
  t70 := Try.underlying68
  a70 := Try.isAgg68
  z70 := Try.sizeOf68
  v70 := Try.zeroValue68
  t72 := Try.underlying71
  a72 := Try.isAgg71
  z72 := Try.sizeOf71
  v72 := Try.zeroValue71 }
def Try.lays169_ren : Go.Shelf.Ren := ⟨fun | 169 => 33 | n => n, fun | 70 => 68 | 9 => 9 | 0 => 0 | 72 => 71 | 37 => 69 | 127 => 106 | 3 => 3 | 5 => 5 | n => n, fun | n => n⟩
theorem Try.lays169 : Go.Proofs.Lays.n169 Try.prog Try.lays169_ren := {
  mixed := by kernel_rfl
  f169 := Try.func33.trans (congrArg some (by kernel_rfl))
  t0 := Try.underlying0
  a0 := Try.isAgg0
  z0 := Try.sizeOf0
  v0 := Try.zeroValue0
  t3 := Try.underlying3
  a3 := Try.isAgg3
  z3 := Try.sizeOf3
  v3 := Try.zeroValue3
  t9 := Try.underlying9
  a9 := Try.isAgg9
  z9 := Try.sizeOf9
  v9 := Try.zeroValue9
  t37 := Try.underlying69
  a37 := Try.isAgg69
  z37 := Try.sizeOf69
  v37 := Try.zeroValue69
  t70 := Try.underlying68
  a70 := Try.isAgg68
  z70 := Try.sizeOf68
  v70 := Try.zeroValue68
  t72 := Try.underlying71
  a72 := Try.isAgg71
  z72 := Try.sizeOf71
  v72 := Try.zeroValue71
  t127 := Try.underlying106
  a127 := Try.isAgg106
  z127 := Try.sizeOf106
  v127 := Try.zeroValue106 }
theorem Try.Builder_Extra_169 : Builder.Extra Try.prog Try.lays169_ren := {
  sizeBuilder := by kernel_rfl
  liesBuilder := by kernel_rfl
  t5 := Try.underlying5
  a5 := Try.isAgg5
  z5 := Try.sizeOf5
  v5 := Try.zeroValue5
  infoByte := by kernel_rfl
  cellsByte := by kernel_rfl
  sizeByte := by kernel_rfl
  neB5 := by decide }
open Go.RowKit in
theorem Try.Builder_Len_f (B b : Nat) (bs : List Value) (w : World) (h : Lib.IsBuilderF 71 5 B b bs w) :
    Calls Try.prog 31 #[.pointer (some ⟨b, 0, none⟩)] w fun e w' => e = .returned (.int .i64 bs.length) ∧ w' = w := Any.Builder_Len_f Try.lays170 B b bs w h
open Go.RowKit in
theorem Try.Builder_String_any_k (B b : Nat) (l : List UInt8) (w : World) (h : Lib.IsBuilderF 71 5 B b (Lib.byteCells l) w) (hBw : B ≤ w.heap.size) :
    Calls Try.prog 33 #[.pointer (some ⟨b, 0, none⟩)] w fun e w' => e = .returned (.string ⟨l.toArray⟩) ∧ (Lib.IsBuilderF 71 5 B b (Lib.byteCells l) w' ∧ Below B w w' ∧ Lib.OthersKept 5 (some b) w w') := Any.Builder_String_any_k Try.lays169 Try.Builder_Extra_169 B b l w h hBw
def Try.lays105_ren : Go.Shelf.Ren := ⟨fun | 105 => 30 | 212 => 52 | 99 => 53 | 165 => 54 | 166 => 29 | 170 => 31 | 169 => 33 | 263 => 68 | 264 => 69 | 206 => 70 | 240 => 51 | 241 => 71 | 276 => 67 | 277 => 78 | n => n, fun | 9 => 9 | 3 => 3 | 4 => 4 | 20 => 20 | 0 => 0 | 46 => 60 | 109 => 98 | 5 => 5 | 72 => 71 | 76 => 74 | 51 => 122 | 146 => 123 | 53 => 55 | 148 => 125 | 70 => 68 | 37 => 69 | 75 => 73 | 127 => 106 | 164 => 120 | 80 => 80 | n => n, fun | n => n⟩
theorem Try.lays105 : Go.Proofs.Lays.n105 Try.prog Try.lays105_ren := {
  mixed := by kernel_rfl
  f99 := Try.func53.trans (congrArg some (by kernel_rfl))
  f105 := Try.func30.trans (congrArg some (by kernel_rfl))
  f165 := Try.func54.trans (congrArg some (by kernel_rfl))
  f166 := Try.func29.trans (congrArg some (by kernel_rfl))
  f169 := Try.func33.trans (congrArg some (by kernel_rfl))
  f170 := Try.func31.trans (congrArg some (by kernel_rfl))
  f206 := Try.func70.trans (congrArg some (by kernel_rfl))
  f212 := Try.func52.trans (congrArg some (by kernel_rfl))
  f240 := Try.func51.trans (congrArg some (by kernel_rfl))
  f241 := Try.func71.trans (congrArg some (by kernel_rfl))
  f263 := Try.func68.trans (congrArg some (by kernel_rfl))
  f264 := Try.func69.trans (congrArg some (by kernel_rfl))
  f276 := Try.func67.trans (congrArg some (by kernel_rfl))
  f277 := Try.func78.trans (congrArg some (by kernel_rfl))
  t0 := Try.underlying0
  a0 := Try.isAgg0
  z0 := Try.sizeOf0
  v0 := Try.zeroValue0
  t3 := Try.underlying3
  a3 := Try.isAgg3
  z3 := Try.sizeOf3
  v3 := Try.zeroValue3
  t4 := Try.underlying4
  a4 := Try.isAgg4
  z4 := Try.sizeOf4
  v4 := Try.zeroValue4
  t5 := Try.underlying5
  a5 := Try.isAgg5
  z5 := Try.sizeOf5
  v5 := Try.zeroValue5
  t9 := Try.underlying9
  a9 := Try.isAgg9
  z9 := Try.sizeOf9
  v9 := Try.zeroValue9
  t20 := Try.underlying20
  a20 := Try.isAgg20
  z20 := Try.sizeOf20
  v20 := Try.zeroValue20
  t37 := Try.underlying69
  a37 := Try.isAgg69
  z37 := Try.sizeOf69
  v37 := Try.zeroValue69
  t46 := Try.underlying60
  a46 := Try.isAgg60
  z46 := Try.sizeOf60
  v46 := Try.zeroValue60
  t51 := Try.underlying122
  a51 := Try.isAgg122
  z51 := Try.sizeOf122
  v51 := Try.zeroValue122
  t53 := Try.underlying55
  a53 := Try.isAgg55
  z53 := Try.sizeOf55
  v53 := Try.zeroValue55
  t70 := Try.underlying68
  a70 := Try.isAgg68
  z70 := Try.sizeOf68
  v70 := Try.zeroValue68
  t72 := Try.underlying71
  a72 := Try.isAgg71
  z72 := Try.sizeOf71
  v72 := Try.zeroValue71
  t75 := Try.underlying73
  a75 := Try.isAgg73
  z75 := Try.sizeOf73
  v75 := Try.zeroValue73
  t76 := Try.underlying74
  a76 := Try.isAgg74
  z76 := Try.sizeOf74
  v76 := Try.zeroValue74
  t109 := Try.underlying98
  a109 := Try.isAgg98
  z109 := Try.sizeOf98
  v109 := Try.zeroValue98
  t127 := Try.underlying106
  a127 := Try.isAgg106
  z127 := Try.sizeOf106
  v127 := Try.zeroValue106
  t146 := Try.underlying123
  a146 := Try.isAgg123
  z146 := Try.sizeOf123
  v146 := Try.zeroValue123
  t148 := Try.underlying125
  a148 := Try.isAgg125
  z148 := Try.sizeOf125
  v148 := Try.zeroValue125
  t164 := Try.underlying120
  a164 := Try.isAgg120
  z164 := Try.sizeOf120
  v164 := Try.zeroValue120 }
theorem Try.Builder_Extra_105 : Builder.Extra Try.prog Try.lays105_ren := {
  sizeBuilder := by kernel_rfl
  liesBuilder := by kernel_rfl
  t5 := Try.underlying5
  a5 := Try.isAgg5
  z5 := Try.sizeOf5
  v5 := Try.zeroValue5
  infoByte := by kernel_rfl
  cellsByte := by kernel_rfl
  sizeByte := by kernel_rfl
  neB5 := by decide }
open Go.RowKit Go.Lib in
theorem Try.strings_Repeat (s : ByteArray) (c : Nat) (w : World) (hc : c ≤ 9223372036854775807) (hlen : s.size * c ≤ 140737488355328) :
    Calls Try.prog 30 #[.string s, .int .i64 c] w fun e w' => e = .returned (.string ⟨(Lib.repeatL s.data.toList c).toArray⟩) ∧ Below w.heap.size w w' := Any.strings_Repeat Try.lays105 Try.Builder_Extra_105 s c w hc hlen
end Go.Proofs

namespace Go.Proofs.Ytkgkcnmnfhehfaa
open Go.RowKit Go.Proofs.Heap Go.Proofs.Sch Go.Lib

/-- A builder in block b, its buffer from block B on. -/
abbrev BuiltA (B b : Nat) (bs : List Value) (w : World) : Prop := Lib.BuilderAtF 71 5 B b (.pointer (some ⟨b, 0, none⟩)) bs w
abbrev Built (B b : Nat) (bs : List Value) (w : World) : Prop := Lib.IsBuilderF 71 5 B b bs w

theorem results_tt2 {fn : Func} {p u : Tmp} (h : fn.results = #[.tmp p, .tmp u]) (tmps : Array Value) {P : Program} {w : World} : (results fn tmps).run P w = .ok (.tuple #[tmps.getD p undef, tmps.getD u undef]) w := by
  unfold results
  rw [h]
  simp
theorem size_bld : (Try.prog.info? 71).map (·.size) = some 2 := by kernel_rfl
theorem lies_bld : liesAt Try.prog Try.prog.depth 71 (2 / Try.prog.cellsOf 71) 0 71 1 = true := by kernel_rfl

set_option maxRecDepth 20000 in
set_option maxHeartbeats 8000000 in
theorem bld_check (B b : Nat) (bs : List Value) (w : World) (h : Built B b bs w) : Calls Try.prog 51 #[.pointer (some ⟨b, 0, none⟩)] w fun r w' => r = .returned (.tuple #[]) ∧ BuiltA B b bs w' ∧ Below B w w' ∧ Lib.OthersKept 5 (some b) w w' := by
  obtain ⟨j, hj, hjs⟩ := Option.map_eq_some_iff.1 size_bld
  have HJ := hid hj
  have HJS := hid hjs
  clear hj hjs
  rcases h with h | h
  · have c0 := h.cell0
    have fz := h.frozen0
    have HSH := hid h.shape
    have HE : Hid (BuiltA B b bs (w.setCell ⟨b, 0, none⟩ (.pointer (some ⟨b, 0, none⟩))) ∧ Below B w (w.setCell ⟨b, 0, none⟩ (.pointer (some ⟨b, 0, none⟩))) ∧ Lib.OthersKept 5 (some b) w (w.setCell ⟨b, 0, none⟩ (.pointer (some ⟨b, 0, none⟩)))) :=
      hid ⟨h.used _, (Below.refl B w).setCell (p := ⟨b, 0, none⟩) h.1 _, (Lib.OthersKept.refl _ _ w).setCell ⟨b, 0, none⟩ rfl _⟩
    clear h
    go_enter Try.func51, Try.ntmps51
    go_wp2
    rw [Lib.run_to_unsafe w ⟨b, 0, none⟩ Try.underlying68 Try.underlying120 HJ.out (by rw [HJS.out]; decide) HSH.out (Nat.zero_lt_succ 1)]
    simp only [Result.andThen]
    rw [Oper.upon_value]
    go_wp2
    rw [run_callFunc_extern Try.func67 (by kernel_rfl) (by kernel_rfl) (by kernel_rfl) (e := Extern.AbiNoEscape.same) (by kernel_rfl)]
    rw [Lib.run_noEscape]
    simp only [Result.andThen]
    rw [Oper.upon_value]
    go_wp2
    rw [Lib.run_from_unsafe w ⟨b, 0, none⟩ Try.underlying120 Try.underlying68 HJ.out HSH.out lies_bld]
    simp only [Result.andThen]
    rw [Oper.upon_value]
    go_wp2
    go_end0
    exact ⟨rfl, HE.out⟩
  · have c0 := h.cell0
    have H := hid h
    clear h
    go_enter Try.func51, Try.ntmps51
    go_wp2
    rw [Lib.run_neq_ptr_same w _ Try.underlying68 HJ.out]
    go_wp2
    go_end0
    exact ⟨rfl, H.out, Below.refl B _, Lib.OthersKept.refl _ _ _⟩
theorem ne_bld : 71 ≠ 5 := by decide
set_option maxRecDepth 20000 in
set_option maxHeartbeats 8000000 in
theorem bld_write (B b : Nat) (bs : List Value) (s : ByteArray) (w : World) (h : Built B b bs w) (hlen : bs.length + s.size ≤ 140737488355328) (hBw : B ≤ w.heap.size) : Calls Try.prog 29 #[.pointer (some ⟨b, 0, none⟩), .string s] w fun r w' => r = .returned (.tuple #[.int .i64 s.size, .nilIface]) ∧ BuiltA B b (bs ++ Lib.strCells s) w' ∧ Below B w w' ∧ Lib.OthersKept 5 (some b) w w' := by
  have H := hid h
  have HL := hid hlen
  have HB := hid hBw
  clear h hlen hBw
  go_enter Try.func29, Try.ntmps29
  go_wp2_with fail
  refine (bld_check B b bs _ H.out).mono ?_
  rintro r w1 ⟨rfl, h1, hb1, hk1⟩
  obtain ⟨hB, v, hbk, hown, hne⟩ := h1
  have c0 : w1.cell? ⟨b, 0, none⟩ = some (.pointer (some ⟨b, 0, none⟩)) := cell_of hbk (by rfl)
  have c1 : w1.cell? ⟨b, 1, none⟩ = some v := cell_of hbk (by rfl)
  have HB1 := hid hb1; have HK1 := hid hk1; have HBK := hid hbk; have HOWN := hid hown; have HNE := hid hne; have HBB := hid hB
  clear hb1 hk1 hbk hown hne hB
  obtain ⟨i0, hi, hz0, hz1, hz2⟩ := info_parts' info_u8
  go_wp2_with (at_builtin; refine Lib.wpList_append_own_stringF _ rfl _ _ 69 9 rfl B 5 i0 Try.underlying69 Try.underlying9 hi hz0 hz1 hz2 _ _ _ rfl HOWN.out s rfl ?c3 ?c4 ?c5 ?_)
  case c3 => have := HL.out; unfold maxLen; omega
  case c4 => exact HL.out
  case c5 => have := HB1.out.size; have := HB.out; omega
  intro v' w2 hown' hgrow _
  have hlt : b < w1.heap.size := (Array.getElem?_eq_some_iff.1 HBK.out).1
  have hb2 : w2.heap[b]? = some (.cells #[.pointer (some ⟨b, 0, none⟩), v] 71 (0, 0)) := by
    rw [hgrow.block b hlt (fun e => HNE.out e.symm)]
    exact HBK.out
  have d1 : w2.cell? ⟨b, 1, none⟩ = some v := cell_of hb2 (by rfl)
  have f1 : w2.frozen? ⟨b, 1, none⟩ = false := free_of hb2 1
  have HE : Hid (BuiltA B b (bs ++ Lib.strCells s) (w2.setCell ⟨b, 1, none⟩ v') ∧ Below B w (w2.setCell ⟨b, 1, none⟩ v') ∧ Lib.OthersKept 5 (some b) w (w2.setCell ⟨b, 1, none⟩ v')) :=
    hid ⟨Lib.BuilderAtF.put HBB.out hb2 (bs' := bs ++ Lib.strCells s) (by simpa [Lib.strCells_length] using hown') ne_bld,
      (HB1.out.grown hgrow (by have := HB1.out.size; have := HB.out; omega) (fun k hk => (HOWN.out.lt k hk).1)).setCell (p := ⟨b, 1, none⟩) HBB.out _,
      (HK1.out.grown hgrow (Lib.ownsRowF_kind HOWN.out)).setCell ⟨b, 1, none⟩ rfl _⟩
  obtain ⟨ao, n', cap, rfl⟩ : ∃ ao n' cap, v' = .slice ao n' cap := by
    rcases hown'.2 with ⟨hv, _⟩ | ⟨g, cap, cur, fz, hv, _⟩
    · exact ⟨_, _, _, hv⟩
    · exact ⟨_, _, _, hv⟩
  clear hown' hgrow hlt hb2 c0 c1
  go_wp2
  (try simp only [Exit.inBlock, Exit.then])
  refine bodyPost_ret (results_tt2 rfl _) rfl ?_
  exact ⟨rfl, HE.out⟩
/-- A builder stays over blocks that are new. -/
theorem Built.keep0 {B b : Nat} {p : Value} {bs : List Value} {w w' : World} (h : Lib.BuilderAtF 71 5 B b p bs w) (hk : Keep (fun _ => False) w w') : Lib.BuilderAtF 71 5 B b p bs w' := by
  obtain ⟨hB, v, hb, hown, hne⟩ := h
  refine ⟨hB, v, hk.get hb id, ⟨hown.1, ?_⟩, hne⟩
  rcases hown.2 with hn | ⟨g, cap, cur, fz, hv, hbg, hg, rest⟩
  · exact .inl hn
  · exact .inr ⟨g, cap, cur, fz, hv, hbg, hk.get hg id, rest⟩
end Go.Proofs.Ytkgkcnmnfhehfaa

namespace Go.Proofs.Ytkgkcnmnfhehfaa
open Go.RowKit Go.Proofs.Heap Go.Proofs.Sch Go.Lib

theorem cells_str (l : List UInt8) : Lib.strCells ⟨l.toArray⟩ = Lib.byteCells l := rfl
theorem cells_app (a b : List UInt8) : Lib.byteCells (a ++ b) = Lib.byteCells a ++ Lib.byteCells b := List.map_append
theorem cells_len (a : List UInt8) : (Lib.byteCells a).length = a.length := List.length_map _
theorem repeat_one (c : Nat) : Lib.repeatL [(0 : UInt8)] c = List.replicate c 0 := by
  induction c with
  | zero => rfl
  | succ n ih => rw [Lib.repeatL, ih]; rfl
/-- Noughts up to a place. -/
def padL (l : List UInt8) (m : Nat) : List UInt8 := l ++ List.replicate (m - l.length) 0

/-- What a builder's change leaves: blocks below, and all that are no bytes. -/
structure Wrote (b : Nat) (w w' : World) : Prop where
  low : Below b w w'
  others : Lib.OthersKept 5 (some b) w w'
theorem Wrote.trans {b : Nat} {w w' w'' : World} (h : Wrote b w w') (k : Wrote b w' w'') : Wrote b w w'' :=
  ⟨⟨by rw [k.low.os, h.low.os], by rw [k.low.tape, h.low.tape], by rw [k.low.output, h.low.output], Nat.le_trans h.low.size k.low.size, fun i hi => by rw [k.low.block i hi, h.low.block i hi]⟩, h.others.trans k.others⟩
theorem Wrote.of_keep {b : Nat} {w w' : World} (hb : b ≤ w.heap.size) (k : Keep (fun _ => False) w w') : Wrote b w w' :=
  ⟨⟨k.os, k.tape, k.output, k.size, fun i hi => k.block i (Nat.lt_of_lt_of_le hi hb) id⟩, fun _ _ hi _ _ => k.get hi id⟩
theorem Wrote.keep {w w1 w2 : World} (h : Keep (fun _ => False) w w1) (k : Wrote w.heap.size w1 w2) : Keep (fun _ => False) w w2 :=
  ⟨by rw [k.low.os, h.os], by rw [k.low.tape, h.tape], by rw [k.low.output, h.output], Nat.le_trans h.size k.low.size, fun i hi _ => by rw [k.low.block i hi, h.block i hi id]⟩

set_option maxRecDepth 20000 in
set_option maxHeartbeats 8000000 in
theorem pad_of (b : Nat) (l : List UInt8) (m : Nat) (w : World) (h : Built b b (Lib.byteCells l) w) (hle : l.length ≤ m) (hto : m ≤ 4096) (hbw : b ≤ w.heap.size) :
    Calls Try.prog 28 #[.int .i64 (m : Int), .pointer (some ⟨b, 0, none⟩)] w fun r w' => r = .returned (.tuple #[]) ∧ BuiltA b b (Lib.byteCells (padL l m)) w' ∧ Wrote b w w' := by
  have H := hid h; have HL := hid hle; have HT := hid hto; have HB := hid hbw
  clear h hbw
  go_enter Try.func28, Try.ntmps28
  go_wp2_with fail
  refine (Try.Builder_Len_f b b _ _ H.out).mono ?_
  rintro r w_ ⟨rfl, rfl⟩
  rw [cells_len]
  obtain ⟨c, hc⟩ : ∃ c, m - l.length = c := ⟨_, rfl⟩
  have hsub : ((m : Int) - (l.length : Int)) = (c : Int) := by omega
  have HC : Hid (m - l.length = c) := hid hc
  have hc4 : c ≤ 4096 := by omega
  have HPL : Hid (padL l m = l ++ List.replicate c 0) := hid (by unfold padL; rw [hc])
  obtain ⟨ln, hln⟩ : ∃ ln, l.length = ln := ⟨_, rfl⟩
  rw [hln] at hsub ⊢
  have HLN := hid hln
  rw [hln] at hle
  clear hc hln
  go_wp2_with fail
  refine (Try.strings_Repeat ⟨#[0]⟩ c _ (by omega) (by show 1 * c ≤ _; omega)).mono ?_
  rintro r w2 ⟨rfl, hb2⟩
  have hk2 : Keep (fun _ => False) w_ w2 := Keep.of_below hb2
  have e : Lib.repeatL (⟨#[0]⟩ : ByteArray).data.toList c = List.replicate c 0 := repeat_one c
  rw [e]
  have HW2 := hid (Wrote.of_keep HB.out hk2)
  have HB2 : Hid (b ≤ w2.heap.size) := hid (Nat.le_trans HB.out hk2.size)
  have H2 : Hid (Built b b (Lib.byteCells l) w2) := hid (H.out.elim (fun h => .inl (Built.keep0 h hk2)) (fun h => .inr (Built.keep0 h hk2)))
  clear hb2 hk2 e
  go_wp2_with fail
  refine (bld_write b b _ _ _ H2.out (by rw [cells_len]; show l.length + (List.replicate c (0 : UInt8)).toArray.size ≤ _; simp; have := HLN.out; omega) HB2.out).mono ?_
  rintro r w3 ⟨rfl, h3, hb3, ho3⟩
  have H3 := hid h3
  have HW3 := hid (HW2.out.trans ⟨hb3, ho3⟩)
  clear h3 hb3 ho3
  go_wp2
  go_end0
  refine ⟨rfl, ?_, HW3.out⟩
  rw [HPL.out, cells_app]
  exact H3.out
end Go.Proofs.Ytkgkcnmnfhehfaa

namespace Go.Proofs.Ytkgkcnmnfhehfaa
open Go.RowKit Go.Proofs.Heap Go.Proofs.Sch Go.Proofs.Wide

def pkStep (st : List UInt8 × List WI) (f : Fld) : List UInt8 × List WI :=
  (padL st.1 (upN st.1.length (szN f.kind)) ++ (st.2.take f.count.toNat).flatMap (putL f.kind), st.2.drop f.count.toNat)
def pkRun (fs : List Fld) (vs : List WI) : List UInt8 × List WI := fs.foldl pkStep ([], vs)
/-- The row of a value that fits. -/
def packL (fs : List Fld) (vs : List WI) : List UInt8 := padL (pkRun fs vs).1 (pSize fs)
def packS (fs : List Fld) (vs : List WI) : ByteArray := if fitC fs vs = 0 then ⟨(packL fs vs).toArray⟩ else ⟨#[]⟩

theorem pkRun_next {fs : List Fld} {vs : List WI} {k : Nat} {f : Fld} (h : fs[k]? = some f) : pkRun (fs.take (k + 1)) vs = pkStep (pkRun (fs.take k) vs) f := by
  unfold pkRun; rw [take_next h, List.foldl_append]; rfl
theorem le_upN (a s : Nat) (hs : 1 ≤ s) : a ≤ upN a s := by
  unfold upN
  have h := Nat.div_add_mod (a + s - 1) s
  have h2 := Nat.mod_lt (a + s - 1) (show 0 < s by omega)
  rw [Nat.mul_comm] at h
  omega
theorem putL_len (k : Int) (x : WI) : (putL k x).length = szN k := leL_len _ _
theorem flat_len {α : Type} (g : α → List UInt8) (c : Nat) : ∀ l : List α, (∀ x ∈ l, (g x).length = c) → (l.flatMap g).length = l.length * c
  | [], _ => by simp
  | x :: r, h => by
    rw [List.flatMap_cons, List.length_append, h x (by simp), flat_len g c r (fun y hy => h y (by simp [hy])), List.length_cons, Nat.add_mul]
    omega
theorem padL_len (l : List UInt8) (m : Nat) (h : l.length ≤ m) : (padL l m).length = m := by
  unfold padL
  rw [List.length_append, List.length_replicate]
  omega
/-- Behind each field: how long the row is, what is left of the numbers. -/
theorem pk_inv {fs : List Fld} {vs : List WI} (hok : ∀ f ∈ fs, okF f) (hlen : vs.length = sumN fs) : ∀ k, k ≤ fs.length →
    (pkRun (fs.take k) vs).2 = vs.drop (sumN (fs.take k)) ∧ (pkRun (fs.take k) vs).1.length = (pRun (fs.take k)).1 ∧ (pkRun (fs.take k) vs).2.length = sumN (fs.drop k)
  | 0, _ => by
    rw [List.take_zero, List.drop_zero]
    exact ⟨rfl, rfl, hlen⟩
  | k + 1, hk => by
    obtain ⟨h1, h2, h3⟩ := pk_inv hok hlen k (by omega)
    obtain ⟨f, hf⟩ : ∃ f, fs[k]? = some f := ⟨fs[k], by simp [show k < fs.length by omega]⟩
    have ho := hok f (List.mem_of_getElem? hf)
    have hd : sumN (fs.drop k) = f.count.toNat + sumN (fs.drop (k + 1)) := by rw [drop_next hf]; rfl
    rw [pkRun_next hf, pRun_next hf]
    unfold pkStep pStep
    refine ⟨?_, ?_, ?_⟩
    · show ((pkRun (fs.take k) vs).2).drop f.count.toNat = _
      rw [h1, List.drop_drop, sumN_next hf]
    · show (padL (pkRun (fs.take k) vs).1 (upN (pkRun (fs.take k) vs).1.length (szN f.kind)) ++ ((pkRun (fs.take k) vs).2.take f.count.toNat).flatMap (putL f.kind)).length = upN (pRun (fs.take k)).1 (szN f.kind) + szN f.kind * f.count.toNat
      rw [List.length_append, padL_len _ _ (le_upN _ _ ho.1), flat_len _ (szN f.kind) _ (fun x _ => putL_len _ x), h2, List.length_take, h3, Nat.min_eq_left (by omega), Nat.mul_comm]
    · show (((pkRun (fs.take k) vs).2).drop f.count.toNat).length = _
      rw [List.length_drop, h3]
      omega
/-- Where a field begins. -/
theorem at_of (fs : List Fld) : ∀ k, k ≤ fs.length → (pRun (fs.take k)).2.2.length = k ∧ ∀ i f, i < k → fs[i]? = some f → (pRun (fs.take k)).2.2[i]? = some (upN (pRun (fs.take i)).1 (szN f.kind))
  | 0, _ => by
    rw [List.take_zero]
    exact ⟨rfl, fun i f h => by omega⟩
  | k + 1, hk => by
    obtain ⟨h1, h2⟩ := at_of fs k (by omega)
    obtain ⟨g, hg⟩ : ∃ f, fs[k]? = some f := ⟨fs[k], by simp [show k < fs.length by omega]⟩
    rw [pRun_next hg]
    unfold pStep
    refine ⟨by simp [h1], fun i f hi hf => ?_⟩
    dsimp only
    by_cases he : i = k
    · subst he
      rw [hg] at hf
      injection hf with hf
      subst hf
      rw [List.getElem?_append_right (by omega), h1, Nat.sub_self]
      rfl
    · rw [List.getElem?_append_left (by omega)]
      exact h2 i f (by omega) hf
theorem pRun_le {fs : List Fld} (hok : ∀ f ∈ fs, okF f) : ∀ k, k ≤ fs.length → (pRun (fs.take k)).1 ≤ 71 * k ∧ 1 ≤ (pRun (fs.take k)).2.1 ∧ (pRun (fs.take k)).2.1 ≤ 8
  | 0, _ => by
    rw [List.take_zero]
    exact ⟨Nat.le_refl _, Nat.le_refl _, by show 1 ≤ 8; omega⟩
  | k + 1, hk => by
    obtain ⟨h1, h2⟩ := pRun_le hok k (by omega)
    obtain ⟨f, hf⟩ : ∃ f, fs[k]? = some f := ⟨fs[k], by simp [show k < fs.length by omega]⟩
    have := pStep_le h1 h2 (hok f (List.mem_of_getElem? hf))
    rw [pRun_next hf]
    exact ⟨by omega, this.2⟩
theorem fitRun_drop {fs : List Fld} {vs : List WI} (h : fitRun fs vs = true) : ∀ k, k ≤ fs.length → fitRun (fs.drop k) (pkRun (fs.take k) vs).2 = true
  | 0, _ => by
    rw [List.take_zero, List.drop_zero]
    exact h
  | k + 1, hk => by
    have ih := fitRun_drop h k (by omega)
    obtain ⟨f, hf⟩ : ∃ f, fs[k]? = some f := ⟨fs[k], by simp [show k < fs.length by omega]⟩
    rw [drop_next hf, fitRun, Bool.and_eq_true] at ih
    rw [pkRun_next hf]
    exact ih.2
theorem fitRun_at {fs : List Fld} {vs : List WI} (h : fitRun fs vs = true) {k : Nat} {f : Fld} (hf : fs[k]? = some f) : ∀ x ∈ (pkRun (fs.take k) vs).2.take f.count.toNat, fitsB f.kind x = true := by
  have hk : k < fs.length := (List.getElem?_eq_some_iff.1 hf).1
  have ih := fitRun_drop h k (by omega)
  rw [drop_next hf, fitRun, Bool.and_eq_true, List.all_eq_true] at ih
  exact ih.1
end Go.Proofs.Ytkgkcnmnfhehfaa

namespace Go.Proofs.Ytkgkcnmnfhehfaa
open Go.RowKit Go.Proofs.Heap Go.Proofs.Sch Go.Proofs.Wide

/-- The bytes of an element. -/
def elB (s : ByteArray) (a n : Nat) : ByteArray := s.extract a (a + n)
/-- The first j elements of a field that begins at a. -/
def unEl (s : ByteArray) (kd : Int) (a j : Nat) : List WI := (List.range j).map fun i => getV kd (elB s (a + i * szN kd) (szN kd))
def unStep (s : ByteArray) (st : Nat × List WI) (f : Fld) : Nat × List WI :=
  (upN st.1 (szN f.kind) + szN f.kind * f.count.toNat, st.2 ++ unEl s f.kind (upN st.1 (szN f.kind)) f.count.toNat)
def unRun (s : ByteArray) (fs : List Fld) : Nat × List WI := fs.foldl (unStep s) (0, [])
def unRow (fs : List Fld) (s : ByteArray) : List WI := (unRun s fs).2
def unOk (fs : List Fld) (s : ByteArray) : Bool := fitRun fs (unRow fs s) && decide ((⟨(packL fs (unRow fs s)).toArray⟩ : ByteArray) = s)
/-- The error of bytes. -/
def unE (fs : List Fld) (s : ByteArray) : Nat := if layC fs = 0 then (if s.size = pSize fs then (if unOk fs s = true then 0 else 4) else 4) else layC fs
def unV (fs : List Fld) (s : ByteArray) : List WI := if unE fs s = 0 then unRow fs s else []

theorem unEl_len (s : ByteArray) (kd : Int) (a j : Nat) : (unEl s kd a j).length = j := by simp [unEl]
theorem unEl_next (s : ByteArray) (kd : Int) (a j : Nat) : unEl s kd a (j + 1) = unEl s kd a j ++ [getV kd (elB s (a + j * szN kd) (szN kd))] := by
  simp [unEl, List.range_succ]
theorem unRun_next {s : ByteArray} {fs : List Fld} {k : Nat} {f : Fld} (h : fs[k]? = some f) : unRun s (fs.take (k + 1)) = unStep s (unRun s (fs.take k)) f := by
  unfold unRun; rw [take_next h, List.foldl_append]; rfl
theorem un_inv (s : ByteArray) (fs : List Fld) : ∀ k, k ≤ fs.length → (unRun s (fs.take k)).1 = (pRun (fs.take k)).1 ∧ (unRun s (fs.take k)).2.length = sumN (fs.take k)
  | 0, _ => by
    rw [List.take_zero]
    exact ⟨rfl, rfl⟩
  | k + 1, hk => by
    obtain ⟨h1, h2⟩ := un_inv s fs k (by omega)
    obtain ⟨f, hf⟩ : ∃ f, fs[k]? = some f := ⟨fs[k], by simp [show k < fs.length by omega]⟩
    rw [unRun_next hf, pRun_next hf, sumN_next hf]
    unfold unStep pStep
    refine ⟨?_, ?_⟩
    · show upN (unRun s (fs.take k)).1 _ + _ = upN (pRun (fs.take k)).1 _ + _
      rw [h1]
    · show ((unRun s (fs.take k)).2 ++ _).length = _
      rw [List.length_append, unEl_len, h2]
theorem fitRun_app (f : Fld) (us : List WI) : ∀ (fs : List Fld) (vs : List WI), vs.length = sumN fs → fitRun (fs ++ [f]) (vs ++ us) = (fitRun fs vs && (us.take f.count.toNat).all (fitsB f.kind))
  | [], vs, h => by
    obtain rfl : vs = [] := List.eq_nil_of_length_eq_zero h
    simp [fitRun]
  | g :: r, vs, h => by
    have h' : vs.length = g.count.toNat + sumN r := h
    rw [List.cons_append, fitRun, fitRun, List.take_append_of_le_length (by omega), List.drop_append_of_le_length (by omega), fitRun_app f us r _ (by rw [List.length_drop]; omega), Bool.and_assoc]
/-- Whether all so far fit. -/
def unFl (s : ByteArray) (fs : List Fld) (k : Nat) : Bool := fitRun (fs.take k) (unRun s (fs.take k)).2
theorem unFl_next {s : ByteArray} {fs : List Fld} {k : Nat} {f : Fld} (h : fs[k]? = some f) : unFl s fs (k + 1) = (unFl s fs k && (unEl s f.kind (upN (pRun (fs.take k)).1 (szN f.kind)) f.count.toNat).all (fitsB f.kind)) := by
  have hk : k < fs.length := (List.getElem?_eq_some_iff.1 h).1
  have hi := un_inv s fs k (by omega)
  unfold unFl
  rw [unRun_next h, take_next h]
  show fitRun (fs.take k ++ [f]) ((unRun s (fs.take k)).2 ++ unEl s f.kind (upN (unRun s (fs.take k)).1 (szN f.kind)) f.count.toNat) = _
  have e : (unEl s f.kind (upN (pRun (fs.take k)).1 (szN f.kind)) f.count.toNat).take f.count.toNat = unEl s f.kind (upN (pRun (fs.take k)).1 (szN f.kind)) f.count.toNat := List.take_of_length_le (by rw [unEl_len]; exact Nat.le_refl _)
  rw [fitRun_app _ _ _ _ hi.2, hi.1, e]
theorem unFl_no {s : ByteArray} {fs : List Fld} {k : Nat} (h : unFl s fs k = false) : ∀ d, k + d ≤ fs.length → unFl s fs (k + d) = false
  | 0, _ => h
  | d + 1, hd => by
    have ih := unFl_no h d (by omega)
    obtain ⟨f, hf⟩ : ∃ f, fs[k + d]? = some f := ⟨fs[k + d], by simp [show k + d < fs.length by omega]⟩
    rw [← Nat.add_assoc, unFl_next hf, ih]; rfl
theorem unFl_all (s : ByteArray) (fs : List Fld) : unFl s fs fs.length = fitRun fs (unRow fs s) := by
  unfold unFl unRow; rw [List.take_length]
theorem un_bad {s : ByteArray} {fs : List Fld} {k j : Nat} {f : Fld} (h : fs[k]? = some f) (hj : j < f.count.toNat) (hb : fitsB f.kind (getV f.kind (elB s (upN (pRun (fs.take k)).1 (szN f.kind) + j * szN f.kind) (szN f.kind))) = false) : unOk fs s = false := by
  have hk : k < fs.length := (List.getElem?_eq_some_iff.1 h).1
  have h1 : unFl s fs (k + 1) = false := by
    rw [unFl_next h]
    have : (unEl s f.kind (upN (pRun (fs.take k)).1 (szN f.kind)) f.count.toNat).all (fitsB f.kind) = false := by
      rw [List.all_eq_false]
      refine ⟨_, ?_, by rw [hb]; simp⟩
      unfold unEl
      exact List.mem_map.2 ⟨j, List.mem_range.2 hj, rfl⟩
    rw [this, Bool.and_false]
  have h2 := unFl_no h1 (fs.length - (k + 1)) (by omega)
  rw [show k + 1 + (fs.length - (k + 1)) = fs.length by omega, unFl_all] at h2
  unfold unOk
  rw [h2]; rfl
theorem firstN_lt (s : ByteArray) (n : Nat) : firstN s n < 256 ^ n := by
  have h1 := leN_lt (s.data.toList.take n)
  have h2 : (s.data.toList.take n).length ≤ n := by rw [List.length_take]; omega
  exact Nat.lt_of_lt_of_le h1 (pow_le h2)
theorem getV_fit (k : Int) (s : ByteArray) : (getV k s).fit := by
  have h1 := firstN_lt s (szN k)
  have h2 : 256 ^ szN k ≤ 18446744073709551616 := pow_le (sz_le k)
  unfold getV
  split
  · rename_i h
    exact ⟨(by decide : (0 : Nat) < 18446744073709551616), (by have := h.2; omega : 256 ^ szN k - firstN s (szN k) < 18446744073709551616)⟩
  · exact ⟨(by decide : (0 : Nat) < 18446744073709551616), (by omega : firstN s (szN k) < 18446744073709551616)⟩
theorem pSize_ge {fs : List Fld} (hok : ∀ f ∈ fs, okF f) {k j : Nat} {f : Fld} (h : fs[k]? = some f) (hj : j < f.count.toNat) : upN (pRun (fs.take k)).1 (szN f.kind) + j * szN f.kind + szN f.kind ≤ pSize fs := by
  have hk : k < fs.length := (List.getElem?_eq_some_iff.1 h).1
  have mono : ∀ d, k + 1 + d ≤ fs.length → (pRun (fs.take (k + 1))).1 ≤ (pRun (fs.take (k + 1 + d))).1 := by
    intro d
    induction d with
    | zero => intro _; exact Nat.le_refl _
    | succ d ih =>
      intro hd
      obtain ⟨g, hg⟩ : ∃ g, fs[k + 1 + d]? = some g := ⟨fs[k + 1 + d], by simp [show k + 1 + d < fs.length by omega]⟩
      have h1 := ih (by omega)
      have h2 := le_upN (pRun (fs.take (k + 1 + d))).1 (szN g.kind) (hok g (List.mem_of_getElem? hg)).1
      rw [← Nat.add_assoc, pRun_next hg]
      show _ ≤ upN (pRun (fs.take (k + 1 + d))).1 (szN g.kind) + szN g.kind * g.count.toNat
      omega
  have h1 := mono (fs.length - (k + 1)) (by omega)
  rw [show k + 1 + (fs.length - (k + 1)) = fs.length by omega, List.take_length, pRun_next h] at h1
  have h3 := (pRun_le hok fs.length (Nat.le_refl _)).2.1
  rw [List.take_length] at h3
  have h4 := le_upN (pRun fs).1 (pRun fs).2.1 h3
  have h5 : upN (pRun (fs.take k)).1 (szN f.kind) + szN f.kind * f.count.toNat ≤ pSize fs := Nat.le_trans h1 h4
  have h6 : (j + 1) * szN f.kind ≤ f.count.toNat * szN f.kind := Nat.mul_le_mul_right _ hj
  rw [Nat.add_mul, Nat.one_mul] at h6
  rw [Nat.mul_comm (szN f.kind)] at h5
  omega
theorem unE_ok {fs : List Fld} {s : ByteArray} (h0 : layC fs = 0) (hs : s.size = pSize fs) : unE fs s = if unOk fs s = true then 0 else 4 := by
  unfold unE
  rw [if_pos h0, if_pos hs]
end Go.Proofs.Ytkgkcnmnfhehfaa

namespace Go.Proofs.Ytkgkcnmnfhehfaa
open Go.RowKit Go.Proofs.Heap Go.Proofs.Sch

/-- An element's cells. -/
def ecl (e : Int × Nat) : List Value := [.int .i64 e.1, iV e.2]
/-- The elements of a field that begins at a. -/
def eAdd (k : Int) (a sz n : Nat) : List (Int × Nat) := (List.range n).map (fun j => (k, a + sz * j))
def eStep (st : Nat × List (Int × Nat)) (f : Fld) : Nat × List (Int × Nat) := (upN st.1 (szN f.kind) + szN f.kind * f.count.toNat, st.2 ++ eAdd f.kind (upN st.1 (szN f.kind)) (szN f.kind) f.count.toNat)
/-- All elements of fields. -/
def eRun (fs : List Fld) : List (Int × Nat) := (fs.foldl eStep (0, [])).2

theorem eAdd_zero (k : Int) (a sz : Nat) : eAdd k a sz 0 = [] := rfl
theorem eAdd_next (k : Int) (a sz n : Nat) : eAdd k a sz (n + 1) = eAdd k a sz n ++ [(k, a + sz * n)] := by
  unfold eAdd; rw [List.range_succ, List.map_append]; rfl
theorem eAdd_len (k : Int) (a sz n : Nat) : (eAdd k a sz n).length = n := by simp [eAdd]
theorem eFold_at : ∀ (fs : List Fld) (a g : Nat) (es : List (Int × Nat)) (ss : List Nat), (fs.foldl eStep (a, es)).1 = (fs.foldl pStep (a, g, ss)).1
  | [], _, _, _, _ => rfl
  | f :: r, a, g, es, ss => by
    rw [List.foldl_cons, List.foldl_cons]
    exact eFold_at r _ _ _ _
theorem eRun_next {fs : List Fld} {k : Nat} {f : Fld} (h : fs[k]? = some f) : eRun (fs.take (k + 1)) = eRun (fs.take k) ++ eAdd f.kind (upN (pRun (fs.take k)).1 (szN f.kind)) (szN f.kind) f.count.toNat := by
  unfold eRun pRun
  rw [take_next h, List.foldl_append, List.foldl_cons, List.foldl_nil]
  unfold eStep
  rw [← eFold_at (fs.take k) 0 1 [] []]
  rfl
theorem eRun_len : ∀ (fs : List Fld), (eRun fs).length = sumN fs := by
  have key : ∀ (fs : List Fld) (st : Nat × List (Int × Nat)), (fs.foldl eStep st).2.length = st.2.length + sumN fs := by
    intro fs
    induction fs with
    | nil => intro st; simp [sumN]
    | cons f r ih =>
      intro st
      rw [List.foldl_cons, ih]
      simp only [eStep, List.length_append, eAdd_len, sumN]
      omega
  intro fs
  have := key fs (0, [])
  simpa [eRun] using this

/-- The multiple that is met first. -/
theorem upN_meet {a s x : Nat} (hs : 1 ≤ s) (h1 : a ≤ x) (h2 : x ≤ upN a s) (h3 : x % s = 0) : x = upN a s := by
  have hd := Nat.div_add_mod (a + s - 1) s
  have hm := Nat.mod_lt (a + s - 1) (show 0 < s by omega)
  have hx := Nat.div_add_mod x s
  have e : upN a s = s * ((a + s - 1) / s) := by unfold upN; rw [Nat.mul_comm]
  rw [e] at h2 ⊢
  rw [h3] at hx
  generalize (a + s - 1) / s = q at *
  generalize x / s = t at *
  have h4 : s * t < s * q + s → t < q + 1 := fun h => Nat.lt_of_mul_lt_mul_left (a := s) (by rw [Nat.mul_add]; omega)
  have h5 : s * q < s * t + s → q < t + 1 := fun h => Nat.lt_of_mul_lt_mul_left (a := s) (by rw [Nat.mul_add]; omega)
  have : t = q := by
    have h6 := h4 (by omega)
    have h7 := h5 (by omega)
    omega
  subst this
  omega
theorem upN_dvd (a s : Nat) : upN a s % s = 0 := by unfold upN; exact Nat.mul_mod_left ..
theorem upN_ge {a s : Nat} (hs : 1 ≤ s) : a ≤ upN a s := by
  have hd := Nat.div_add_mod (a + s - 1) s
  have hm := Nat.mod_lt (a + s - 1) (show 0 < s by omega)
  unfold upN
  rw [Nat.mul_comm]
  omega

/-- The reference's two rows under way: the elements, where fields begin. -/
structure LY (w : World) (v6 v7 : Value) (es : List (Int × Nat)) (ss : List Nat) (y : World) : Prop where
  keep : Keep (fun _ => False) w y
  o6 : y.ownsRow w.heap.size 66 2 v6 es.length (es.flatMap ecl)
  o7 : y.ownsRow w.heap.size 3 1 v7 ss.length (ss.map iV)
  dis : ∀ g, v6.ownBlock = some g → v7.ownBlock = some g → False
/-- A field's box beside them. -/
structure LB (v6 v7 : Value) (bx : Nat) (f : Fld) (y : World) : Prop where
  box : y.heap[bx]? = some (.cells #[.string f.name, .int .i64 f.kind, .int .i64 f.count] 41 (0, 0))
  n6 : v6.ownBlock ≠ some bx
  n7 : v7.ownBlock ≠ some bx

section
variable {w y y' : World} {v6 v7 v' : Value} {es : List (Int × Nat)} {ss : List Nat} {bx : Nat} {f : Fld}
theorem LY.keep0 (h : LY w v6 v7 es ss y) (hk : Keep (fun _ => False) y y') : LY w v6 v7 es ss y' :=
  ⟨h.keep.trans hk, owns_keep h.o6 (fun q hq => hk.block q (h.o6.lt q hq).2 id), owns_keep h.o7 (fun q hq => hk.block q (h.o7.lt q hq).2 id), h.dis⟩
theorem LB.keep0 (h : LB v6 v7 bx f y) (hk : Keep (fun _ => False) y y') : LB v6 v7 bx f y' := ⟨hk.get h.box id, h.n6, h.n7⟩
theorem LY.newBox (h : LY w v6 v7 es ss y) (f : Fld) : LB v6 v7 y.heap.size f (y.alloc (.cells #[.string f.name, .int .i64 f.kind, .int .i64 f.count] 41)) :=
  ⟨heap_alloc_new y _, fun e => by have := (h.o6.lt _ e).2; omega, fun e => by have := (h.o7.lt _ e).2; omega⟩
theorem LY.app6 (h : LY w v6 v7 es ss y) (hb : LB v6 v7 bx f y) {e : Int × Nat} (hown : y'.ownsRow w.heap.size 66 2 v' (es.length + 1) (es.flatMap ecl ++ ecl e)) (hg : y.grownBy y' v6.ownBlock) (ha : v'.ownBlock = v6.ownBlock ∨ v'.ownBlock = some y.heap.size) :
    LY w v' v7 (es ++ [e]) ss y' ∧ LB v' v7 bx f y' := by
  have hk : Keep (fun q => v6.ownBlock = some q) y y' := (Keep.refl _ y).grown hg (fun k hk => .inr hk)
  refine ⟨⟨h.keep.trans' hk (fun i hi e => by have := (h.o6.lt _ e).1; omega), by simpa using hown, owns_keep h.o7 (fun q hq => hk.block q (h.o7.lt q hq).2 (fun e => h.dis q e hq)), fun g h1 h2 => ?_⟩, hk.get hb.box hb.n6, fun e => ?_, hb.n7⟩
  · rcases ha with ha | ha
    · exact h.dis g (ha ▸ h1) h2
    · rw [ha] at h1
      injection h1 with h1
      have := (h.o7.lt g h2).2
      omega
  · rcases ha with ha | ha
    · exact hb.n6 (ha ▸ e)
    · rw [ha] at e
      injection e with e
      have := lt_of_heap hb.box
      omega
theorem LY.app7 (h : LY w v6 v7 es ss y) (hb : LB v6 v7 bx f y) {a : Nat} (hown : y'.ownsRow w.heap.size 3 1 v' (ss.length + 1) (ss.map iV ++ [iV a])) (hg : y.grownBy y' v7.ownBlock) (ha : v'.ownBlock = v7.ownBlock ∨ v'.ownBlock = some y.heap.size) :
    LY w v6 v' es (ss ++ [a]) y' ∧ LB v6 v' bx f y' := by
  have hk : Keep (fun q => v7.ownBlock = some q) y y' := (Keep.refl _ y).grown hg (fun k hk => .inr hk)
  refine ⟨⟨h.keep.trans' hk (fun i hi e => by have := (h.o7.lt _ e).1; omega), owns_keep h.o6 (fun q hq => hk.block q (h.o6.lt q hq).2 (fun e => h.dis q hq e)), by simpa using hown, fun g h1 h2 => ?_⟩, hk.get hb.box hb.n7, hb.n6, fun e => ?_⟩
  · rcases ha with ha | ha
    · exact h.dis g h1 (ha ▸ h2)
    · rw [ha] at h2
      injection h2 with h2
      have := (h.o6.lt g h1).2
      omega
  · rcases ha with ha | ha
    · exact hb.n7 (ha ▸ e)
    · rw [ha] at e
      injection e with e
      have := lt_of_heap hb.box
      omega
/-- A block more for what is appended. -/
theorem Keep.grown_alloc {w y y' : World} {o : Obj} {row : Option Nat} (hg : (y.alloc o).grownBy y' row) (hr : ∀ k, row = some k → w.heap.size ≤ k) (hk : Keep (fun _ => False) w y) : Keep (fun _ => False) w y' :=
  (hk.alloc o).grown hg (fun k h => .inl (hr k h))
end
theorem info_elem : (Try.prog.info? 66).map (fun i => (i.zero, i.size, i.bytes)) = some (some (.agg #[.int .i64 0, .int .i64 0]), 2, 16) := by kernel_rfl
end Go.Proofs.Ytkgkcnmnfhehfaa

namespace Go.Proofs.Ytkgkcnmnfhehfaa
open Go.RowKit Go.Proofs.Heap

theorem sizeK_out {k : Int} (h : k < 1 ∨ 10 < k) : sizeK k = 0 := by
  unfold sizeK
  rw [if_neg (by omega), if_neg (by omega), if_neg (by omega), if_neg (by omega)]

abbrev NB : Array Value := #[.int .i64 0, .int .i64 1, .int .i64 1, .int .i64 2, .int .i64 4, .int .i64 8, .int .i64 1, .int .i64 2, .int .i64 4, .int .i64 8, .int .i64 8]

set_option maxRecDepth 20000 in
set_option maxHeartbeats 2000000 in
theorem r_bytes (k : Int) (w : World) : Calls Try.prog 37 #[.int .i64 k] w fun r w' => r = .returned (.int .i64 (sizeK k)) ∧ Keep (fun _ => False) w w' := by
  go_enter Try.func37, Try.ntmps37
  by_cases h1 : k < 1
  · have g1 : decide (k < 1) = true := decide_eq_true h1
    have G := hid (sizeK_out (.inl h1))
    clear h1
    go_wp2
    go_ret
    exact ⟨by rw [G.out]; rfl, Keep.refl _ _⟩
  have g1 : decide (k < 1) = false := decide_eq_false h1
  by_cases h2 : 10 < k
  · have g2 : decide (10 < k) = true := decide_eq_true h2
    have G := hid (sizeK_out (.inr h2))
    clear h1 h2
    go_wp2
    go_ret
    exact ⟨by rw [G.out]; rfl, Keep.refl _ _⟩
  have g2 : decide (10 < k) = false := decide_eq_false h2
  have hb := heap_alloc_new w (.cells NB 110)
  have HK := hid ((Keep.refl (fun _ => False) w).alloc (.cells NB 110))
  have HB := hid hb
  clear hb
  have hc : k = 1 ∨ k = 2 ∨ k = 3 ∨ k = 4 ∨ k = 5 ∨ k = 6 ∨ k = 7 ∨ k = 8 ∨ k = 9 ∨ k = 10 := by omega
  clear h1 h2
  go_upto_region 4 with fail
  generalize w.alloc (.cells NB 110) = w1 at *
  generalize w.heap.size = b at *
  clear g1 g2
  rcases hc with rfl | rfl | rfl | rfl | rfl | rfl | rfl | rfl | rfl | rfl
  · have c : w1.cell? ⟨b, 1, none⟩ = some (.int .i64 1) := cell_of HB.out (by rfl)
    go_wp2
    go_ret
    exact ⟨by rfl, HK.out⟩
  · have c : w1.cell? ⟨b, 2, none⟩ = some (.int .i64 1) := cell_of HB.out (by rfl)
    go_wp2
    go_ret
    exact ⟨by rfl, HK.out⟩
  · have c : w1.cell? ⟨b, 3, none⟩ = some (.int .i64 2) := cell_of HB.out (by rfl)
    go_wp2
    go_ret
    exact ⟨by rfl, HK.out⟩
  · have c : w1.cell? ⟨b, 4, none⟩ = some (.int .i64 4) := cell_of HB.out (by rfl)
    go_wp2
    go_ret
    exact ⟨by rfl, HK.out⟩
  · have c : w1.cell? ⟨b, 5, none⟩ = some (.int .i64 8) := cell_of HB.out (by rfl)
    go_wp2
    go_ret
    exact ⟨by rfl, HK.out⟩
  · have c : w1.cell? ⟨b, 6, none⟩ = some (.int .i64 1) := cell_of HB.out (by rfl)
    go_wp2
    go_ret
    exact ⟨by rfl, HK.out⟩
  · have c : w1.cell? ⟨b, 7, none⟩ = some (.int .i64 2) := cell_of HB.out (by rfl)
    go_wp2
    go_ret
    exact ⟨by rfl, HK.out⟩
  · have c : w1.cell? ⟨b, 8, none⟩ = some (.int .i64 4) := cell_of HB.out (by rfl)
    go_wp2
    go_ret
    exact ⟨by rfl, HK.out⟩
  · have c : w1.cell? ⟨b, 9, none⟩ = some (.int .i64 8) := cell_of HB.out (by rfl)
    go_wp2
    go_ret
    exact ⟨by rfl, HK.out⟩
  · have c : w1.cell? ⟨b, 10, none⟩ = some (.int .i64 8) := cell_of HB.out (by rfl)
    go_wp2
    go_ret
    exact ⟨by rfl, HK.out⟩
end Go.Proofs.Ytkgkcnmnfhehfaa
