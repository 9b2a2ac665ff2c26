/- What is proved: strings.Builder's Len and String, strings.Repeat: contracts of the shelf, laid at this program (written by the shelf's own tools in their plain mode). -/
import Derived.Shelf.Strings.Builder1
import Derived.Shelf.Strings.Builder2
import Derived.Shelf.Strings.BuilderF
import Derived.Shelf.Strings.BuilderK
import Derived.Shelf.Strings.Repeat
import Derived.Test.YtfehiclbcebnoaaGreatProg
import Derived.Test.YtfehiclbcebnoaaGreatMLay
import Derived.Test.YtfehiclbcebnoaaGreatMHeap
import Derived.Test.YtfehiclbcebnoaaGreatMLay2
import Derived.Test.YtfehiclbcebnoaaGreatMFget
import Derived.Test.YtfehiclbcebnoaaGreatMBox
namespace Go.Proofs
open Go.Shelf
def Tryz.lays170_ren : Go.Shelf.Ren := ⟨fun | 170 => 49 | n => n, fun | 70 => 97 | 3 => 3 | 0 => 0 | 72 => 99 | 37 => 59 | 5 => 5 | n => n, fun | n => n⟩
theorem Tryz.lays170 : Go.Proofs.Lays.n170 Tryz.prog Tryz.lays170_ren := {
  mixed := by kernel_rfl
  f170 := Tryz.func49.trans (congrArg some (by kernel_rfl))
  t0 := Tryz.underlying0
  a0 := Tryz.isAgg0
  z0 := Tryz.sizeOf0
  v0 := Tryz.zeroValue0
  t3 := Tryz.underlying3
  a3 := Tryz.isAgg3
  z3 := Tryz.sizeOf3
  v3 := Tryz.zeroValue3
  t37 := Tryz.underlying59
  a37 := Tryz.isAgg59
  z37 := Tryz.sizeOf59
  v37 := Tryz.zeroValue59
  t70 := Tryz.underlying97
  a70 := Tryz.isAgg97
  z70 := Tryz.sizeOf97
  v70 := Tryz.zeroValue97
  t72 := Tryz.underlying99
  a72 := Tryz.isAgg99
  z72 := Tryz.sizeOf99
  v72 := Tryz.zeroValue99 }
def Tryz.lays169_ren : Go.Shelf.Ren := ⟨fun | 169 => 51 | n => n, fun | 70 => 97 | 9 => 9 | 0 => 0 | 72 => 99 | 37 => 59 | 127 => 142 | 3 => 3 | 5 => 5 | n => n, fun | n => n⟩
theorem Tryz.lays169 : Go.Proofs.Lays.n169 Tryz.prog Tryz.lays169_ren := {
  mixed := by kernel_rfl
  f169 := Tryz.func51.trans (congrArg some (by kernel_rfl))
  t0 := Tryz.underlying0
  a0 := Tryz.isAgg0
  z0 := Tryz.sizeOf0
  v0 := Tryz.zeroValue0
  t3 := Tryz.underlying3
  a3 := Tryz.isAgg3
  z3 := Tryz.sizeOf3
  v3 := Tryz.zeroValue3
  t9 := Tryz.underlying9
  a9 := Tryz.isAgg9
  z9 := Tryz.sizeOf9
  v9 := Tryz.zeroValue9
  t37 := Tryz.underlying59
  a37 := Tryz.isAgg59
  z37 := Tryz.sizeOf59
  v37 := Tryz.zeroValue59
  t70 := Tryz.underlying97
  a70 := Tryz.isAgg97
  z70 := Tryz.sizeOf97
  v70 := Tryz.zeroValue97
  t72 := Tryz.underlying99
  a72 := Tryz.isAgg99
  z72 := Tryz.sizeOf99
  v72 := Tryz.zeroValue99
  t127 := Tryz.underlying142
  a127 := Tryz.isAgg142
  z127 := Tryz.sizeOf142
  v127 := Tryz.zeroValue142 }
theorem Tryz.Builder_Extra_169 : Builder.Extra Tryz.prog Tryz.lays169_ren := {
  sizeBuilder := by kernel_rfl
  liesBuilder := by kernel_rfl
  t5 := Tryz.underlying5
  a5 := Tryz.isAgg5
  z5 := Tryz.sizeOf5
  v5 := Tryz.zeroValue5
  infoByte := by kernel_rfl
  cellsByte := by kernel_rfl
  sizeByte := by kernel_rfl
  neB5 := by decide }
open Go.RowKit in
theorem Tryz.Builder_Len_f (B b : Nat) (bs : List Value) (w : World) (h : Lib.IsBuilderF 99 5 B b bs w) :
    Calls Tryz.prog 49 #[.pointer (some ⟨b, 0, none⟩)] w fun e w' => e = .returned (.int .i64 bs.length) ∧ w' = w := Any.Builder_Len_f Tryz.lays170 B b bs w h
open Go.RowKit in
theorem Tryz.Builder_String_any_k (B b : Nat) (l : List UInt8) (w : World) (h : Lib.IsBuilderF 99 5 B b (Lib.byteCells l) w) (hBw : B ≤ w.heap.size) :
    Calls Tryz.prog 51 #[.pointer (some ⟨b, 0, none⟩)] w fun e w' => e = .returned (.string ⟨l.toArray⟩) ∧ (Lib.IsBuilderF 99 5 B b (Lib.byteCells l) w' ∧ Below B w w' ∧ Lib.OthersKept 5 (some b) w w') := Any.Builder_String_any_k Tryz.lays169 Tryz.Builder_Extra_169 B b l w h hBw
def Tryz.lays105_ren : Go.Shelf.Ren := ⟨fun | 105 => 48 | 212 => 79 | 99 => 80 | 165 => 81 | 166 => 47 | 170 => 49 | 169 => 51 | 263 => 96 | 264 => 97 | 206 => 98 | 240 => 78 | 241 => 99 | 276 => 95 | 277 => 105 | n => n, fun | 9 => 9 | 3 => 3 | 4 => 4 | 20 => 20 | 0 => 0 | 46 => 90 | 109 => 138 | 5 => 5 | 72 => 99 | 76 => 102 | 51 => 158 | 146 => 159 | 53 => 52 | 148 => 161 | 70 => 97 | 37 => 59 | 75 => 101 | 127 => 142 | 164 => 156 | 80 => 67 | n => n, fun | n => n⟩
theorem Tryz.lays105 : Go.Proofs.Lays.n105 Tryz.prog Tryz.lays105_ren := {
  mixed := by kernel_rfl
  f99 := Tryz.func80.trans (congrArg some (by kernel_rfl))
  f105 := Tryz.func48.trans (congrArg some (by kernel_rfl))
  f165 := Tryz.func81.trans (congrArg some (by kernel_rfl))
  f166 := Tryz.func47.trans (congrArg some (by kernel_rfl))
  f169 := Tryz.func51.trans (congrArg some (by kernel_rfl))
  f170 := Tryz.func49.trans (congrArg some (by kernel_rfl))
  f206 := Tryz.func98.trans (congrArg some (by kernel_rfl))
  f212 := Tryz.func79.trans (congrArg some (by kernel_rfl))
  f240 := Tryz.func78.trans (congrArg some (by kernel_rfl))
  f241 := Tryz.func99.trans (congrArg some (by kernel_rfl))
  f263 := Tryz.func96.trans (congrArg some (by kernel_rfl))
  f264 := Tryz.func97.trans (congrArg some (by kernel_rfl))
  f276 := Tryz.func95.trans (congrArg some (by kernel_rfl))
  f277 := Tryz.func105.trans (congrArg some (by kernel_rfl))
  t0 := Tryz.underlying0
  a0 := Tryz.isAgg0
  z0 := Tryz.sizeOf0
  v0 := Tryz.zeroValue0
  t3 := Tryz.underlying3
  a3 := Tryz.isAgg3
  z3 := Tryz.sizeOf3
  v3 := Tryz.zeroValue3
  t4 := Tryz.underlying4
  a4 := Tryz.isAgg4
  z4 := Tryz.sizeOf4
  v4 := Tryz.zeroValue4
  t5 := Tryz.underlying5
  a5 := Tryz.isAgg5
  z5 := Tryz.sizeOf5
  v5 := Tryz.zeroValue5
  t9 := Tryz.underlying9
  a9 := Tryz.isAgg9
  z9 := Tryz.sizeOf9
  v9 := Tryz.zeroValue9
  t20 := Tryz.underlying20
  a20 := Tryz.isAgg20
  z20 := Tryz.sizeOf20
  v20 := Tryz.zeroValue20
  t37 := Tryz.underlying59
  a37 := Tryz.isAgg59
  z37 := Tryz.sizeOf59
  v37 := Tryz.zeroValue59
  t46 := Tryz.underlying90
  a46 := Tryz.isAgg90
  z46 := Tryz.sizeOf90
  v46 := Tryz.zeroValue90
  t51 := Tryz.underlying158
  a51 := Tryz.isAgg158
  z51 := Tryz.sizeOf158
  v51 := Tryz.zeroValue158
  t53 := Tryz.underlying52
  a53 := Tryz.isAgg52
  z53 := Tryz.sizeOf52
  v53 := Tryz.zeroValue52
  t70 := Tryz.underlying97
  a70 := Tryz.isAgg97
  z70 := Tryz.sizeOf97
  v70 := Tryz.zeroValue97
  t72 := Tryz.underlying99
  a72 := Tryz.isAgg99
  z72 := Tryz.sizeOf99
  v72 := Tryz.zeroValue99
  t75 := Tryz.underlying101
  a75 := Tryz.isAgg101
  z75 := Tryz.sizeOf101
  v75 := Tryz.zeroValue101
  t76 := Tryz.underlying102
  a76 := Tryz.isAgg102
  z76 := Tryz.sizeOf102
  v76 := Tryz.zeroValue102
  t109 := Tryz.underlying138
  a109 := Tryz.isAgg138
  z109 := Tryz.sizeOf138
  v109 := Tryz.zeroValue138
  t127 := Tryz.underlying142
  a127 := Tryz.isAgg142
  z127 := Tryz.sizeOf142
  v127 := Tryz.zeroValue142
  t146 := Tryz.underlying159
  a146 := Tryz.isAgg159
  z146 := Tryz.sizeOf159
  v146 := Tryz.zeroValue159
  t148 := Tryz.underlying161
  a148 := Tryz.isAgg161
  z148 := Tryz.sizeOf161
  v148 := Tryz.zeroValue161
  t164 := Tryz.underlying156
  a164 := Tryz.isAgg156
  z164 := Tryz.sizeOf156
  v164 := Tryz.zeroValue156 }
theorem Tryz.Builder_Extra_105 : Builder.Extra Tryz.prog Tryz.lays105_ren := {
  sizeBuilder := by kernel_rfl
  liesBuilder := by kernel_rfl
  t5 := Tryz.underlying5
  a5 := Tryz.isAgg5
  z5 := Tryz.sizeOf5
  v5 := Tryz.zeroValue5
  infoByte := by kernel_rfl
  cellsByte := by kernel_rfl
  sizeByte := by kernel_rfl
  neB5 := by decide }
open Go.RowKit Go.Lib in
theorem Tryz.strings_Repeat (s : ByteArray) (c : Nat) (w : World) (hc : c ≤ 9223372036854775807) (hlen : s.size * c ≤ 140737488355328) :
    Calls Tryz.prog 48 #[.string s, .int .i64 c] w fun e w' => e = .returned (.string ⟨(Lib.repeatL s.data.toList c).toArray⟩) ∧ Below w.heap.size w w' := Any.strings_Repeat Tryz.lays105 Tryz.Builder_Extra_105 s c w hc hlen
end Go.Proofs

namespace Go.Proofs.YtfehiclbcebnoaaGreat
open Go.RowKit Go.Proofs.Heap Go.Proofs.Sch Go.Lib

/-- A builder in block b, its buffer from block B on. -/
abbrev BuiltA (B b : Nat) (bs : List Value) (w : World) : Prop := Lib.BuilderAtF 99 5 B b (.pointer (some ⟨b, 0, none⟩)) bs w
abbrev Built (B b : Nat) (bs : List Value) (w : World) : Prop := Lib.IsBuilderF 99 5 B b bs w

theorem results_tt2 {fn : Func} {p u : Tmp} (h : fn.results = #[.tmp p, .tmp u]) (tmps : Array Value) {P : Program} {w : World} : (results fn tmps).run P w = .ok (.tuple #[tmps.getD p undef, tmps.getD u undef]) w := by
  unfold results
  rw [h]
  simp
theorem size_bld : (Tryz.prog.info? 99).map (·.size) = some 2 := by kernel_rfl
theorem lies_bld : liesAt Tryz.prog Tryz.prog.depth 99 (2 / Tryz.prog.cellsOf 99) 0 99 1 = true := by kernel_rfl

set_option maxRecDepth 20000 in
set_option maxHeartbeats 8000000 in
theorem bld_check (B b : Nat) (bs : List Value) (w : World) (h : Built B b bs w) : Calls Tryz.prog 78 #[.pointer (some ⟨b, 0, none⟩)] w fun r w' => r = .returned (.tuple #[]) ∧ BuiltA B b bs w' ∧ Below B w w' ∧ Lib.OthersKept 5 (some b) w w' := by
  obtain ⟨j, hj, hjs⟩ := Option.map_eq_some_iff.1 size_bld
  have HJ := hid hj
  have HJS := hid hjs
  clear hj hjs
  rcases h with h | h
  · have c0 := h.cell0
    have fz := h.frozen0
    have HSH := hid h.shape
    have HE : Hid (BuiltA B b bs (w.setCell ⟨b, 0, none⟩ (.pointer (some ⟨b, 0, none⟩))) ∧ Below B w (w.setCell ⟨b, 0, none⟩ (.pointer (some ⟨b, 0, none⟩))) ∧ Lib.OthersKept 5 (some b) w (w.setCell ⟨b, 0, none⟩ (.pointer (some ⟨b, 0, none⟩)))) :=
      hid ⟨h.used _, (Below.refl B w).setCell (p := ⟨b, 0, none⟩) h.1 _, (Lib.OthersKept.refl _ _ w).setCell ⟨b, 0, none⟩ rfl _⟩
    clear h
    go_enter Tryz.func78, Tryz.ntmps78
    go_wp2
    rw [Lib.run_to_unsafe w ⟨b, 0, none⟩ Tryz.underlying97 Tryz.underlying156 HJ.out (by rw [HJS.out]; decide) HSH.out (Nat.zero_lt_succ 1)]
    simp only [Result.andThen]
    rw [Oper.upon_value]
    go_wp2
    rw [run_callFunc_extern Tryz.func95 (by kernel_rfl) (by kernel_rfl) (by kernel_rfl) (e := Extern.AbiNoEscape.same) (by kernel_rfl)]
    rw [Lib.run_noEscape]
    simp only [Result.andThen]
    rw [Oper.upon_value]
    go_wp2
    rw [Lib.run_from_unsafe w ⟨b, 0, none⟩ Tryz.underlying156 Tryz.underlying97 HJ.out HSH.out lies_bld]
    simp only [Result.andThen]
    rw [Oper.upon_value]
    go_wp2
    go_end0
    exact ⟨rfl, HE.out⟩
  · have c0 := h.cell0
    have H := hid h
    clear h
    go_enter Tryz.func78, Tryz.ntmps78
    go_wp2
    rw [Lib.run_neq_ptr_same w _ Tryz.underlying97 HJ.out]
    go_wp2
    go_end0
    exact ⟨rfl, H.out, Below.refl B _, Lib.OthersKept.refl _ _ _⟩
theorem ne_bld : 99 ≠ 5 := by decide
set_option maxRecDepth 20000 in
set_option maxHeartbeats 8000000 in
theorem bld_write (B b : Nat) (bs : List Value) (s : ByteArray) (w : World) (h : Built B b bs w) (hlen : bs.length + s.size ≤ 140737488355328) (hBw : B ≤ w.heap.size) : Calls Tryz.prog 47 #[.pointer (some ⟨b, 0, none⟩), .string s] w fun r w' => r = .returned (.tuple #[.int .i64 s.size, .nilIface]) ∧ BuiltA B b (bs ++ Lib.strCells s) w' ∧ Below B w w' ∧ Lib.OthersKept 5 (some b) w w' := by
  have H := hid h
  have HL := hid hlen
  have HB := hid hBw
  clear h hlen hBw
  go_enter Tryz.func47, Tryz.ntmps47
  go_wp2_with fail
  refine (bld_check B b bs _ H.out).mono ?_
  rintro r w1 ⟨rfl, h1, hb1, hk1⟩
  obtain ⟨hB, v, hbk, hown, hne⟩ := h1
  have c0 : w1.cell? ⟨b, 0, none⟩ = some (.pointer (some ⟨b, 0, none⟩)) := cell_of hbk (by rfl)
  have c1 : w1.cell? ⟨b, 1, none⟩ = some v := cell_of hbk (by rfl)
  have HB1 := hid hb1; have HK1 := hid hk1; have HBK := hid hbk; have HOWN := hid hown; have HNE := hid hne; have HBB := hid hB
  clear hb1 hk1 hbk hown hne hB
  obtain ⟨i0, hi, hz0, hz1, hz2⟩ := info_parts' info_u8
  go_wp2_with (at_builtin; refine Lib.wpList_append_own_stringF _ rfl _ _ 59 9 rfl B 5 i0 Tryz.underlying59 Tryz.underlying9 hi hz0 hz1 hz2 _ _ _ rfl HOWN.out s rfl ?c3 ?c4 ?c5 ?_)
  case c3 => have := HL.out; unfold maxLen; omega
  case c4 => exact HL.out
  case c5 => have := HB1.out.size; have := HB.out; omega
  intro v' w2 hown' hgrow _
  have hlt : b < w1.heap.size := (Array.getElem?_eq_some_iff.1 HBK.out).1
  have hb2 : w2.heap[b]? = some (.cells #[.pointer (some ⟨b, 0, none⟩), v] 99 (0, 0)) := by
    rw [hgrow.block b hlt (fun e => HNE.out e.symm)]
    exact HBK.out
  have d1 : w2.cell? ⟨b, 1, none⟩ = some v := cell_of hb2 (by rfl)
  have f1 : w2.frozen? ⟨b, 1, none⟩ = false := free_of hb2 1
  have HE : Hid (BuiltA B b (bs ++ Lib.strCells s) (w2.setCell ⟨b, 1, none⟩ v') ∧ Below B w (w2.setCell ⟨b, 1, none⟩ v') ∧ Lib.OthersKept 5 (some b) w (w2.setCell ⟨b, 1, none⟩ v')) :=
    hid ⟨Lib.BuilderAtF.put HBB.out hb2 (bs' := bs ++ Lib.strCells s) (by simpa [Lib.strCells_length] using hown') ne_bld,
      (HB1.out.grown hgrow (by have := HB1.out.size; have := HB.out; omega) (fun k hk => (HOWN.out.lt k hk).1)).setCell (p := ⟨b, 1, none⟩) HBB.out _,
      (HK1.out.grown hgrow (Lib.ownsRowF_kind HOWN.out)).setCell ⟨b, 1, none⟩ rfl _⟩
  obtain ⟨ao, n', cap, rfl⟩ : ∃ ao n' cap, v' = .slice ao n' cap := by
    rcases hown'.2 with ⟨hv, _⟩ | ⟨g, cap, cur, fz, hv, _⟩
    · exact ⟨_, _, _, hv⟩
    · exact ⟨_, _, _, hv⟩
  clear hown' hgrow hlt hb2 c0 c1
  go_wp2
  (try simp only [Exit.inBlock, Exit.then])
  refine bodyPost_ret (results_tt2 rfl _) rfl ?_
  exact ⟨rfl, HE.out⟩
/-- A builder stays over blocks that are new. -/
theorem Built.keep0 {B b : Nat} {p : Value} {bs : List Value} {w w' : World} (h : Lib.BuilderAtF 99 5 B b p bs w) (hk : Keep (fun _ => False) w w') : Lib.BuilderAtF 99 5 B b p bs w' := by
  obtain ⟨hB, v, hb, hown, hne⟩ := h
  refine ⟨hB, v, hk.get hb id, ⟨hown.1, ?_⟩, hne⟩
  rcases hown.2 with hn | ⟨g, cap, cur, fz, hv, hbg, hg, rest⟩
  · exact .inl hn
  · exact .inr ⟨g, cap, cur, fz, hv, hbg, hk.get hg id, rest⟩
end Go.Proofs.YtfehiclbcebnoaaGreat

namespace Go.Proofs.YtfehiclbcebnoaaGreat
open Go.RowKit Go.Proofs.Heap Go.Proofs.Sch Go.Lib

theorem cells_str (l : List UInt8) : Lib.strCells ⟨l.toArray⟩ = Lib.byteCells l := rfl
theorem cells_app (a b : List UInt8) : Lib.byteCells (a ++ b) = Lib.byteCells a ++ Lib.byteCells b := List.map_append
theorem cells_len (a : List UInt8) : (Lib.byteCells a).length = a.length := List.length_map _
theorem repeat_one (c : Nat) : Lib.repeatL [(0 : UInt8)] c = List.replicate c 0 := by
  induction c with
  | zero => rfl
  | succ n ih => rw [Lib.repeatL, ih]; rfl
/-- Noughts up to a place. -/
def padL (l : List UInt8) (m : Nat) : List UInt8 := l ++ List.replicate (m - l.length) 0

/-- What a builder's change leaves: blocks below, and all that are no bytes. -/
structure Wrote (b : Nat) (w w' : World) : Prop where
  low : Below b w w'
  others : Lib.OthersKept 5 (some b) w w'
theorem Wrote.trans {b : Nat} {w w' w'' : World} (h : Wrote b w w') (k : Wrote b w' w'') : Wrote b w w'' :=
  ⟨⟨by rw [k.low.os, h.low.os], by rw [k.low.tape, h.low.tape], by rw [k.low.output, h.low.output], Nat.le_trans h.low.size k.low.size, fun i hi => by rw [k.low.block i hi, h.low.block i hi]⟩, h.others.trans k.others⟩
theorem Wrote.of_keep {b : Nat} {w w' : World} (hb : b ≤ w.heap.size) (k : Keep (fun _ => False) w w') : Wrote b w w' :=
  ⟨⟨k.os, k.tape, k.output, k.size, fun i hi => k.block i (Nat.lt_of_lt_of_le hi hb) id⟩, fun _ _ hi _ _ => k.get hi id⟩
theorem Wrote.keep {w w1 w2 : World} (h : Keep (fun _ => False) w w1) (k : Wrote w.heap.size w1 w2) : Keep (fun _ => False) w w2 :=
  ⟨by rw [k.low.os, h.os], by rw [k.low.tape, h.tape], by rw [k.low.output, h.output], Nat.le_trans h.size k.low.size, fun i hi _ => by rw [k.low.block i hi, h.block i hi id]⟩

set_option maxRecDepth 20000 in
set_option maxHeartbeats 8000000 in
theorem pad_of (b : Nat) (l : List UInt8) (m : Nat) (w : World) (h : Built b b (Lib.byteCells l) w) (hle : l.length ≤ m) (hto : m ≤ 4096) (hbw : b ≤ w.heap.size) :
    Calls Tryz.prog 46 #[.int .i64 (m : Int), .pointer (some ⟨b, 0, none⟩)] w fun r w' => r = .returned (.tuple #[]) ∧ BuiltA b b (Lib.byteCells (padL l m)) w' ∧ Wrote b w w' := by
  have H := hid h; have HL := hid hle; have HT := hid hto; have HB := hid hbw
  clear h hbw
  go_enter Tryz.func46, Tryz.ntmps46
  go_wp2_with fail
  refine (Tryz.Builder_Len_f b b _ _ H.out).mono ?_
  rintro r w_ ⟨rfl, rfl⟩
  rw [cells_len]
  obtain ⟨c, hc⟩ : ∃ c, m - l.length = c := ⟨_, rfl⟩
  have hsub : ((m : Int) - (l.length : Int)) = (c : Int) := by omega
  have HC : Hid (m - l.length = c) := hid hc
  have hc4 : c ≤ 4096 := by omega
  have HPL : Hid (padL l m = l ++ List.replicate c 0) := hid (by unfold padL; rw [hc])
  obtain ⟨ln, hln⟩ : ∃ ln, l.length = ln := ⟨_, rfl⟩
  rw [hln] at hsub ⊢
  have HLN := hid hln
  rw [hln] at hle
  clear hc hln
  go_wp2_with fail
  refine (Tryz.strings_Repeat ⟨#[0]⟩ c _ (by omega) (by show 1 * c ≤ _; omega)).mono ?_
  rintro r w2 ⟨rfl, hb2⟩
  have hk2 : Keep (fun _ => False) w_ w2 := Keep.of_below hb2
  have e : Lib.repeatL (⟨#[0]⟩ : ByteArray).data.toList c = List.replicate c 0 := repeat_one c
  rw [e]
  have HW2 := hid (Wrote.of_keep HB.out hk2)
  have HB2 : Hid (b ≤ w2.heap.size) := hid (Nat.le_trans HB.out hk2.size)
  have H2 : Hid (Built b b (Lib.byteCells l) w2) := hid (H.out.elim (fun h => .inl (Built.keep0 h hk2)) (fun h => .inr (Built.keep0 h hk2)))
  clear hb2 hk2 e
  go_wp2_with fail
  refine (bld_write b b _ _ _ H2.out (by rw [cells_len]; show l.length + (List.replicate c (0 : UInt8)).toArray.size ≤ _; simp; have := HLN.out; omega) HB2.out).mono ?_
  rintro r w3 ⟨rfl, h3, hb3, ho3⟩
  have H3 := hid h3
  have HW3 := hid (HW2.out.trans ⟨hb3, ho3⟩)
  clear h3 hb3 ho3
  go_wp2
  go_end0
  refine ⟨rfl, ?_, HW3.out⟩
  rw [HPL.out, cells_app]
  exact H3.out
end Go.Proofs.YtfehiclbcebnoaaGreat

namespace Go.Proofs.YtfehiclbcebnoaaGreat
open Go.RowKit Go.Proofs.Heap Go.Proofs.Sch Go.Proofs.Wide

def pkStep (st : List UInt8 × List WI) (f : Fld) : List UInt8 × List WI :=
  (padL st.1 (upN st.1.length (szN f.kind)) ++ (st.2.take f.count.toNat).flatMap (putL f.kind), st.2.drop f.count.toNat)
def pkRun (fs : List Fld) (vs : List WI) : List UInt8 × List WI := fs.foldl pkStep ([], vs)
/-- The row of a value that fits. -/
def packL (fs : List Fld) (vs : List WI) : List UInt8 := padL (pkRun fs vs).1 (pSize fs)
def packS (fs : List Fld) (vs : List WI) : ByteArray := if fitC fs vs = 0 then ⟨(packL fs vs).toArray⟩ else ⟨#[]⟩

theorem pkRun_next {fs : List Fld} {vs : List WI} {k : Nat} {f : Fld} (h : fs[k]? = some f) : pkRun (fs.take (k + 1)) vs = pkStep (pkRun (fs.take k) vs) f := by
  unfold pkRun; rw [take_next h, List.foldl_append]; rfl
theorem le_upN (a s : Nat) (hs : 1 ≤ s) : a ≤ upN a s := by
  unfold upN
  have h := Nat.div_add_mod (a + s - 1) s
  have h2 := Nat.mod_lt (a + s - 1) (show 0 < s by omega)
  rw [Nat.mul_comm] at h
  omega
theorem putL_len (k : Int) (x : WI) : (putL k x).length = szN k := leL_len _ _
theorem flat_len {α : Type} (g : α → List UInt8) (c : Nat) : ∀ l : List α, (∀ x ∈ l, (g x).length = c) → (l.flatMap g).length = l.length * c
  | [], _ => by simp
  | x :: r, h => by
    rw [List.flatMap_cons, List.length_append, h x (by simp), flat_len g c r (fun y hy => h y (by simp [hy])), List.length_cons, Nat.add_mul]
    omega
theorem padL_len (l : List UInt8) (m : Nat) (h : l.length ≤ m) : (padL l m).length = m := by
  unfold padL
  rw [List.length_append, List.length_replicate]
  omega
/-- Behind each field: how long the row is, what is left of the numbers. -/
theorem pk_inv {fs : List Fld} {vs : List WI} (hok : ∀ f ∈ fs, okF f) (hlen : vs.length = sumN fs) : ∀ k, k ≤ fs.length →
    (pkRun (fs.take k) vs).2 = vs.drop (sumN (fs.take k)) ∧ (pkRun (fs.take k) vs).1.length = (pRun (fs.take k)).1 ∧ (pkRun (fs.take k) vs).2.length = sumN (fs.drop k)
  | 0, _ => by
    rw [List.take_zero, List.drop_zero]
    exact ⟨rfl, rfl, hlen⟩
  | k + 1, hk => by
    obtain ⟨h1, h2, h3⟩ := pk_inv hok hlen k (by omega)
    obtain ⟨f, hf⟩ : ∃ f, fs[k]? = some f := ⟨fs[k], by simp [show k < fs.length by omega]⟩
    have ho := hok f (List.mem_of_getElem? hf)
    have hd : sumN (fs.drop k) = f.count.toNat + sumN (fs.drop (k + 1)) := by rw [drop_next hf]; rfl
    rw [pkRun_next hf, pRun_next hf]
    unfold pkStep pStep
    refine ⟨?_, ?_, ?_⟩
    · show ((pkRun (fs.take k) vs).2).drop f.count.toNat = _
      rw [h1, List.drop_drop, sumN_next hf]
    · show (padL (pkRun (fs.take k) vs).1 (upN (pkRun (fs.take k) vs).1.length (szN f.kind)) ++ ((pkRun (fs.take k) vs).2.take f.count.toNat).flatMap (putL f.kind)).length = upN (pRun (fs.take k)).1 (szN f.kind) + szN f.kind * f.count.toNat
      rw [List.length_append, padL_len _ _ (le_upN _ _ ho.1), flat_len _ (szN f.kind) _ (fun x _ => putL_len _ x), h2, List.length_take, h3, Nat.min_eq_left (by omega), Nat.mul_comm]
    · show (((pkRun (fs.take k) vs).2).drop f.count.toNat).length = _
      rw [List.length_drop, h3]
      omega
/-- Where a field begins. -/
theorem at_of (fs : List Fld) : ∀ k, k ≤ fs.length → (pRun (fs.take k)).2.2.length = k ∧ ∀ i f, i < k → fs[i]? = some f → (pRun (fs.take k)).2.2[i]? = some (upN (pRun (fs.take i)).1 (szN f.kind))
  | 0, _ => by
    rw [List.take_zero]
    exact ⟨rfl, fun i f h => by omega⟩
  | k + 1, hk => by
    obtain ⟨h1, h2⟩ := at_of fs k (by omega)
    obtain ⟨g, hg⟩ : ∃ f, fs[k]? = some f := ⟨fs[k], by simp [show k < fs.length by omega]⟩
    rw [pRun_next hg]
    unfold pStep
    refine ⟨by simp [h1], fun i f hi hf => ?_⟩
    dsimp only
    by_cases he : i = k
    · subst he
      rw [hg] at hf
      injection hf with hf
      subst hf
      rw [List.getElem?_append_right (by omega), h1, Nat.sub_self]
      rfl
    · rw [List.getElem?_append_left (by omega)]
      exact h2 i f (by omega) hf
theorem pRun_le {fs : List Fld} (hok : ∀ f ∈ fs, okF f) : ∀ k, k ≤ fs.length → (pRun (fs.take k)).1 ≤ 71 * k ∧ 1 ≤ (pRun (fs.take k)).2.1 ∧ (pRun (fs.take k)).2.1 ≤ 8
  | 0, _ => by
    rw [List.take_zero]
    exact ⟨Nat.le_refl _, Nat.le_refl _, by show 1 ≤ 8; omega⟩
  | k + 1, hk => by
    obtain ⟨h1, h2⟩ := pRun_le hok k (by omega)
    obtain ⟨f, hf⟩ : ∃ f, fs[k]? = some f := ⟨fs[k], by simp [show k < fs.length by omega]⟩
    have := pStep_le h1 h2 (hok f (List.mem_of_getElem? hf))
    rw [pRun_next hf]
    exact ⟨by omega, this.2⟩
theorem fitRun_drop {fs : List Fld} {vs : List WI} (h : fitRun fs vs = true) : ∀ k, k ≤ fs.length → fitRun (fs.drop k) (pkRun (fs.take k) vs).2 = true
  | 0, _ => by
    rw [List.take_zero, List.drop_zero]
    exact h
  | k + 1, hk => by
    have ih := fitRun_drop h k (by omega)
    obtain ⟨f, hf⟩ : ∃ f, fs[k]? = some f := ⟨fs[k], by simp [show k < fs.length by omega]⟩
    rw [drop_next hf, fitRun, Bool.and_eq_true] at ih
    rw [pkRun_next hf]
    exact ih.2
theorem fitRun_at {fs : List Fld} {vs : List WI} (h : fitRun fs vs = true) {k : Nat} {f : Fld} (hf : fs[k]? = some f) : ∀ x ∈ (pkRun (fs.take k) vs).2.take f.count.toNat, fitsB f.kind x = true := by
  have hk : k < fs.length := (List.getElem?_eq_some_iff.1 hf).1
  have ih := fitRun_drop h k (by omega)
  rw [drop_next hf, fitRun, Bool.and_eq_true, List.all_eq_true] at ih
  exact ih.1
end Go.Proofs.YtfehiclbcebnoaaGreat

namespace Go.Proofs.YtfehiclbcebnoaaGreat
open Go.RowKit Go.Proofs.Heap Go.Proofs.Sch Go.Proofs.Wide

/-- The bytes of an element. -/
def elB (s : ByteArray) (a n : Nat) : ByteArray := s.extract a (a + n)
/-- The first j elements of a field that begins at a. -/
def unEl (s : ByteArray) (kd : Int) (a j : Nat) : List WI := (List.range j).map fun i => getV kd (elB s (a + i * szN kd) (szN kd))
def unStep (s : ByteArray) (st : Nat × List WI) (f : Fld) : Nat × List WI :=
  (upN st.1 (szN f.kind) + szN f.kind * f.count.toNat, st.2 ++ unEl s f.kind (upN st.1 (szN f.kind)) f.count.toNat)
def unRun (s : ByteArray) (fs : List Fld) : Nat × List WI := fs.foldl (unStep s) (0, [])
def unRow (fs : List Fld) (s : ByteArray) : List WI := (unRun s fs).2
def unOk (fs : List Fld) (s : ByteArray) : Bool := fitRun fs (unRow fs s) && decide ((⟨(packL fs (unRow fs s)).toArray⟩ : ByteArray) = s)
/-- The error of bytes. -/
def unE (fs : List Fld) (s : ByteArray) : Nat := if layC fs = 0 then (if s.size = pSize fs then (if unOk fs s = true then 0 else 4) else 4) else layC fs
def unV (fs : List Fld) (s : ByteArray) : List WI := if unE fs s = 0 then unRow fs s else []

theorem unEl_len (s : ByteArray) (kd : Int) (a j : Nat) : (unEl s kd a j).length = j := by simp [unEl]
theorem unEl_next (s : ByteArray) (kd : Int) (a j : Nat) : unEl s kd a (j + 1) = unEl s kd a j ++ [getV kd (elB s (a + j * szN kd) (szN kd))] := by
  simp [unEl, List.range_succ]
theorem unRun_next {s : ByteArray} {fs : List Fld} {k : Nat} {f : Fld} (h : fs[k]? = some f) : unRun s (fs.take (k + 1)) = unStep s (unRun s (fs.take k)) f := by
  unfold unRun; rw [take_next h, List.foldl_append]; rfl
theorem un_inv (s : ByteArray) (fs : List Fld) : ∀ k, k ≤ fs.length → (unRun s (fs.take k)).1 = (pRun (fs.take k)).1 ∧ (unRun s (fs.take k)).2.length = sumN (fs.take k)
  | 0, _ => by
    rw [List.take_zero]
    exact ⟨rfl, rfl⟩
  | k + 1, hk => by
    obtain ⟨h1, h2⟩ := un_inv s fs k (by omega)
    obtain ⟨f, hf⟩ : ∃ f, fs[k]? = some f := ⟨fs[k], by simp [show k < fs.length by omega]⟩
    rw [unRun_next hf, pRun_next hf, sumN_next hf]
    unfold unStep pStep
    refine ⟨?_, ?_⟩
    · show upN (unRun s (fs.take k)).1 _ + _ = upN (pRun (fs.take k)).1 _ + _
      rw [h1]
    · show ((unRun s (fs.take k)).2 ++ _).length = _
      rw [List.length_append, unEl_len, h2]
theorem fitRun_app (f : Fld) (us : List WI) : ∀ (fs : List Fld) (vs : List WI), vs.length = sumN fs → fitRun (fs ++ [f]) (vs ++ us) = (fitRun fs vs && (us.take f.count.toNat).all (fitsB f.kind))
  | [], vs, h => by
    obtain rfl : vs = [] := List.eq_nil_of_length_eq_zero h
    simp [fitRun]
  | g :: r, vs, h => by
    have h' : vs.length = g.count.toNat + sumN r := h
    rw [List.cons_append, fitRun, fitRun, List.take_append_of_le_length (by omega), List.drop_append_of_le_length (by omega), fitRun_app f us r _ (by rw [List.length_drop]; omega), Bool.and_assoc]
/-- Whether all so far fit. -/
def unFl (s : ByteArray) (fs : List Fld) (k : Nat) : Bool := fitRun (fs.take k) (unRun s (fs.take k)).2
theorem unFl_next {s : ByteArray} {fs : List Fld} {k : Nat} {f : Fld} (h : fs[k]? = some f) : unFl s fs (k + 1) = (unFl s fs k && (unEl s f.kind (upN (pRun (fs.take k)).1 (szN f.kind)) f.count.toNat).all (fitsB f.kind)) := by
  have hk : k < fs.length := (List.getElem?_eq_some_iff.1 h).1
  have hi := un_inv s fs k (by omega)
  unfold unFl
  rw [unRun_next h, take_next h]
  show fitRun (fs.take k ++ [f]) ((unRun s (fs.take k)).2 ++ unEl s f.kind (upN (unRun s (fs.take k)).1 (szN f.kind)) f.count.toNat) = _
  have e : (unEl s f.kind (upN (pRun (fs.take k)).1 (szN f.kind)) f.count.toNat).take f.count.toNat = unEl s f.kind (upN (pRun (fs.take k)).1 (szN f.kind)) f.count.toNat := List.take_of_length_le (by rw [unEl_len]; exact Nat.le_refl _)
  rw [fitRun_app _ _ _ _ hi.2, hi.1, e]
theorem unFl_no {s : ByteArray} {fs : List Fld} {k : Nat} (h : unFl s fs k = false) : ∀ d, k + d ≤ fs.length → unFl s fs (k + d) = false
  | 0, _ => h
  | d + 1, hd => by
    have ih := unFl_no h d (by omega)
    obtain ⟨f, hf⟩ : ∃ f, fs[k + d]? = some f := ⟨fs[k + d], by simp [show k + d < fs.length by omega]⟩
    rw [← Nat.add_assoc, unFl_next hf, ih]; rfl
theorem unFl_all (s : ByteArray) (fs : List Fld) : unFl s fs fs.length = fitRun fs (unRow fs s) := by
  unfold unFl unRow; rw [List.take_length]
theorem un_bad {s : ByteArray} {fs : List Fld} {k j : Nat} {f : Fld} (h : fs[k]? = some f) (hj : j < f.count.toNat) (hb : fitsB f.kind (getV f.kind (elB s (upN (pRun (fs.take k)).1 (szN f.kind) + j * szN f.kind) (szN f.kind))) = false) : unOk fs s = false := by
  have hk : k < fs.length := (List.getElem?_eq_some_iff.1 h).1
  have h1 : unFl s fs (k + 1) = false := by
    rw [unFl_next h]
    have : (unEl s f.kind (upN (pRun (fs.take k)).1 (szN f.kind)) f.count.toNat).all (fitsB f.kind) = false := by
      rw [List.all_eq_false]
      refine ⟨_, ?_, by rw [hb]; simp⟩
      unfold unEl
      exact List.mem_map.2 ⟨j, List.mem_range.2 hj, rfl⟩
    rw [this, Bool.and_false]
  have h2 := unFl_no h1 (fs.length - (k + 1)) (by omega)
  rw [show k + 1 + (fs.length - (k + 1)) = fs.length by omega, unFl_all] at h2
  unfold unOk
  rw [h2]; rfl
theorem getV_fit (k : Int) (s : ByteArray) : (getV k s).fit := by
  have h1 := firstN_lt s (szN k)
  have h2 : 256 ^ szN k ≤ 18446744073709551616 := pow_le (sz_le k)
  unfold getV
  split
  · rename_i h
    exact ⟨(by decide : (0 : Nat) < 18446744073709551616), (by have := h.2; omega : 256 ^ szN k - firstN s (szN k) < 18446744073709551616)⟩
  · exact ⟨(by decide : (0 : Nat) < 18446744073709551616), (by omega : firstN s (szN k) < 18446744073709551616)⟩
theorem pSize_ge {fs : List Fld} (hok : ∀ f ∈ fs, okF f) {k j : Nat} {f : Fld} (h : fs[k]? = some f) (hj : j < f.count.toNat) : upN (pRun (fs.take k)).1 (szN f.kind) + j * szN f.kind + szN f.kind ≤ pSize fs := by
  have hk : k < fs.length := (List.getElem?_eq_some_iff.1 h).1
  have mono : ∀ d, k + 1 + d ≤ fs.length → (pRun (fs.take (k + 1))).1 ≤ (pRun (fs.take (k + 1 + d))).1 := by
    intro d
    induction d with
    | zero => intro _; exact Nat.le_refl _
    | succ d ih =>
      intro hd
      obtain ⟨g, hg⟩ : ∃ g, fs[k + 1 + d]? = some g := ⟨fs[k + 1 + d], by simp [show k + 1 + d < fs.length by omega]⟩
      have h1 := ih (by omega)
      have h2 := le_upN (pRun (fs.take (k + 1 + d))).1 (szN g.kind) (hok g (List.mem_of_getElem? hg)).1
      rw [← Nat.add_assoc, pRun_next hg]
      show _ ≤ upN (pRun (fs.take (k + 1 + d))).1 (szN g.kind) + szN g.kind * g.count.toNat
      omega
  have h1 := mono (fs.length - (k + 1)) (by omega)
  rw [show k + 1 + (fs.length - (k + 1)) = fs.length by omega, List.take_length, pRun_next h] at h1
  have h3 := (pRun_le hok fs.length (Nat.le_refl _)).2.1
  rw [List.take_length] at h3
  have h4 := le_upN (pRun fs).1 (pRun fs).2.1 h3
  have h5 : upN (pRun (fs.take k)).1 (szN f.kind) + szN f.kind * f.count.toNat ≤ pSize fs := Nat.le_trans h1 h4
  have h6 : (j + 1) * szN f.kind ≤ f.count.toNat * szN f.kind := Nat.mul_le_mul_right _ hj
  rw [Nat.add_mul, Nat.one_mul] at h6
  rw [Nat.mul_comm (szN f.kind)] at h5
  omega
theorem unE_ok {fs : List Fld} {s : ByteArray} (h0 : layC fs = 0) (hs : s.size = pSize fs) : unE fs s = if unOk fs s = true then 0 else 4 := by
  unfold unE
  rw [if_pos h0, if_pos hs]
end Go.Proofs.YtfehiclbcebnoaaGreat

namespace Go.Proofs.YtfehiclbcebnoaaGreat
open Go.RowKit Go.Proofs.Heap Go.Proofs.Sch Go.Proofs.Wide

/-- A number that fits: its bounds. -/
theorem fits_neg {k : Int} {x : WI} (h : fitsB k x = true) (hn : x.neg = true) : signK k = true ∧ x.hi = 0 ∧ 1 ≤ x.lo ∧ x.lo ≤ greatN k + 1 := by
  unfold fitsB at h
  simp only [Bool.and_eq_true, decide_eq_true_eq] at h
  obtain ⟨_, hf, h1, h2⟩ := h
  have hm : x.mag ≠ 0 := form_zero hf hn
  unfold cmpW at h1 h2
  rw [if_pos ⟨hf, leastW_form k⟩] at h1
  have hv : x.val = -(x.mag : Int) := by unfold WI.val; rw [if_pos hn]
  have hl : (leastW k).val ≤ x.val := by
    unfold cmpI at h1
    by_cases e : (leastW k).val < x.val
    · omega
    · rw [if_neg e] at h1
      by_cases e2 : x.val = (leastW k).val
      · omega
      · rw [if_neg e2] at h1; omega
  have hg := greatN_lt k
  cases hs : signK k
  · exfalso
    have : (leastW k).val = 0 := by unfold leastW; rw [hs]; simp [WI.val, WI.mag]
    omega
  · have : (leastW k).val = -((greatN k + 1 : Nat) : Int) := by
      unfold leastW
      rw [hs]
      simp [WI.val, WI.mag]
    have hsg := greatN_sign hs
    have hmg : x.mag ≤ greatN k + 1 := by omega
    unfold WI.mag at hmg hm
    refine ⟨rfl, ?_, ?_, ?_⟩
    · omega
    · omega
    · omega
theorem fits_pos {k : Int} {x : WI} (h : fitsB k x = true) (hn : x.neg = false) : x.hi = 0 ∧ x.lo ≤ greatN k := by
  unfold fitsB at h
  simp only [Bool.and_eq_true, decide_eq_true_eq] at h
  obtain ⟨_, hf, h1, h2⟩ := h
  unfold cmpW at h2
  rw [if_pos ⟨hf, greatW_form k⟩] at h2
  have hv : x.val = (x.mag : Int) := by unfold WI.val; rw [hn]; rfl
  have hgv : (greatW k).val = (greatN k : Int) := by simp [greatW, WI.val, WI.mag]
  have hg := greatN_lt k
  have hmg : x.mag ≤ greatN k := by
    unfold cmpI at h2
    by_cases e : (greatW k).val < x.val
    · rw [if_pos e] at h2; omega
    · omega
  unfold WI.mag at hmg
  exact ⟨by omega, by omega⟩
theorem kind_cases {k : Int} (h : kindB k = true) : k = 1 ∨ k = 2 ∨ k = 3 ∨ k = 4 ∨ k = 5 ∨ k = 6 ∨ k = 7 ∨ k = 8 ∨ k = 9 ∨ k = 10 := by
  have : 1 ≤ k ∧ k ≤ 10 := of_decide_eq_true h
  omega
theorem word_pos {k : Int} (hk : kindB k = true) {n : Nat} (h : n ≤ greatN k) : n % 256 ^ szN k = n := by
  rcases kind_cases hk with rfl | rfl | rfl | rfl | rfl | rfl | rfl | rfl | rfl | rfl
  all_goals
    refine Nat.mod_eq_of_lt (Nat.lt_of_le_of_lt h ?_)
    decide +kernel
theorem word_neg {k : Int} (hk : kindB k = true) (hs : signK k = true) {n : Nat} (h0 : 1 ≤ n) (h : n ≤ greatN k + 1) : (18446744073709551616 - n) % 18446744073709551616 % 256 ^ szN k = 256 ^ szN k - n ∧ greatN k < 256 ^ szN k - n ∧ n ≤ 256 ^ szN k := by
  rcases kind_cases hk with rfl | rfl | rfl | rfl | rfl | rfl | rfl | rfl | rfl | rfl
  · exact absurd hs (by decide)
  · have h' : n ≤ 128 := h
    show (18446744073709551616 - n) % 18446744073709551616 % 256 = 256 - n ∧ 127 < 256 - n ∧ n ≤ 256
    omega
  · have h' : n ≤ 32768 := h
    show (18446744073709551616 - n) % 18446744073709551616 % 65536 = 65536 - n ∧ 32767 < 65536 - n ∧ n ≤ 65536
    omega
  · have h' : n ≤ 2147483648 := h
    show (18446744073709551616 - n) % 18446744073709551616 % 4294967296 = 4294967296 - n ∧ 2147483647 < 4294967296 - n ∧ n ≤ 4294967296
    omega
  · have h' : n ≤ 9223372036854775808 := h
    show (18446744073709551616 - n) % 18446744073709551616 % 18446744073709551616 = 18446744073709551616 - n ∧ 9223372036854775807 < 18446744073709551616 - n ∧ n ≤ 18446744073709551616
    omega
  all_goals exact absurd hs (by decide)
/-- An element's bytes are read as the number that it was. -/
theorem get_put {k : Int} {x : WI} (h : fitsB k x = true) {s : ByteArray} (hb : s.data.toList.take (szN k) = putL k x) : getV k s = x := by
  have hk : kindB k = true := by
    unfold fitsB at h
    simp only [Bool.and_eq_true] at h
    exact h.1
  have hf : firstN s (szN k) = wordN x % 256 ^ szN k := by
    unfold firstN
    rw [hb, putL, leN_leL, Nat.mod_mod]
  obtain ⟨ng, hi, lo⟩ := x
  unfold getV
  rw [hf]
  cases ng
  · obtain ⟨h1, h2⟩ := fits_pos h rfl
    simp only at h1 h2
    subst h1
    have e : wordN ⟨false, 0, lo⟩ = lo := rfl
    rw [e, word_pos hk h2, if_neg (by omega)]
  · obtain ⟨hs, h1, h2, h3⟩ := fits_neg h rfl
    simp only at h1 h2 h3
    subst h1
    have e : wordN ⟨true, 0, lo⟩ = (18446744073709551616 - lo) % 18446744073709551616 := rfl
    obtain ⟨h4, h5, h6⟩ := word_neg hk hs h2 h3
    rw [e, h4, if_pos ⟨hs, h5⟩, Nat.sub_sub_self h6]
/-- The row behind each field begins the whole row. -/
theorem pk_prefix {fs : List Fld} {vs : List WI} : ∀ d, d ≤ fs.length → ∃ rest, packL fs vs = (pkRun (fs.take (fs.length - d)) vs).1 ++ rest
  | 0, _ => by
    rw [Nat.sub_zero, List.take_length]
    exact ⟨_, rfl⟩
  | d + 1, hd => by
    obtain ⟨rest, h⟩ := pk_prefix (fs := fs) (vs := vs) d (by omega)
    obtain ⟨f, hf⟩ : ∃ f, fs[fs.length - (d + 1)]? = some f := ⟨fs[fs.length - (d + 1)]'(by omega), by simp [show fs.length - (d + 1) < fs.length by omega]⟩
    rw [show fs.length - d = fs.length - (d + 1) + 1 by omega, pkRun_next hf] at h
    unfold pkStep padL at h
    dsimp only at h
    rw [List.append_assoc, List.append_assoc] at h
    exact ⟨_, h⟩
theorem flat_drop {α : Type} (g : α → List UInt8) (c : Nat) (hg : ∀ x, (g x).length = c) : ∀ (l : List α) (j : Nat) (x : α) (r : List UInt8), l[j]? = some x → ((l.flatMap g ++ r).drop (j * c)).take c = g x
  | [], j, x, r, h => by simp at h
  | y :: l, 0, x, r, h => by
    simp at h
    subst h
    rw [Nat.zero_mul, List.drop_zero, List.flatMap_cons, List.append_assoc, List.take_append_of_le_length (by rw [hg]; exact Nat.le_refl _), List.take_of_length_le (by rw [hg]; exact Nat.le_refl _)]
  | y :: l, j + 1, x, r, h => by
    rw [List.flatMap_cons, List.append_assoc, Nat.add_mul, Nat.one_mul, Nat.add_comm, ← List.drop_drop, List.drop_left' (hg y)]
    exact flat_drop g c hg l j x r (by simpa using h)
theorem el_bytes (l : List UInt8) (a n : Nat) : ((elB ⟨l.toArray⟩ a n).data.toList).take n = (l.drop a).take n := by
  unfold elB
  rw [ByteArray.data_extract, Array.toList_extract, List.extract_eq_take_drop]
  rw [List.take_take, show min n (a + n - a) = n by omega]
/-- WHAT WAS PACKED IS UNPACKED AS IT WAS. -/
theorem un_pack {fs : List Fld} {vs : List WI} (hok : ∀ f ∈ fs, okF f) (hlen : vs.length = sumN fs) (hrun : fitRun fs vs = true) : ∀ k, k ≤ fs.length → (unRun ⟨(packL fs vs).toArray⟩ (fs.take k)).2 = vs.take (sumN (fs.take k))
  | 0, _ => by rw [List.take_zero]; rfl
  | k + 1, hk => by
    have ih := un_pack hok hlen hrun k (by omega)
    obtain ⟨f, hf⟩ : ∃ f, fs[k]? = some f := ⟨fs[k], by simp [show k < fs.length by omega]⟩
    obtain ⟨h1, h2, h3⟩ := pk_inv hok hlen k (by omega)
    have ho := hok f (List.mem_of_getElem? hf)
    have hall := fitRun_at hrun hf
    have hsd : sumN (fs.drop k) = f.count.toNat + sumN (fs.drop (k + 1)) := by rw [drop_next hf]; rfl
    obtain ⟨rest, hp⟩ := pk_prefix (fs := fs) (vs := vs) (fs.length - (k + 1)) (by omega)
    rw [show fs.length - (fs.length - (k + 1)) = k + 1 by omega, pkRun_next hf] at hp
    have hi := (un_inv ⟨(packL fs vs).toArray⟩ fs k (by omega)).1
    rw [unRun_next hf, sumN_next hf]
    show (unRun _ (fs.take k)).2 ++ unEl _ f.kind (upN (unRun _ (fs.take k)).1 (szN f.kind)) f.count.toNat = _
    rw [ih, hi, List.take_add, ← h1]
    congr 1
    generalize hch : (pkRun (fs.take k) vs).2 = ch at *
    have hcl : f.count.toNat ≤ ch.length := by omega
    refine List.ext_getElem? fun j => ?_
    by_cases hj : j < f.count.toNat
    · obtain ⟨x, hx⟩ : ∃ x, (ch.take f.count.toNat)[j]? = some x := ⟨ch[j]'(by omega), by rw [List.getElem?_take_of_lt hj]; simp [show j < ch.length by omega]⟩
      rw [hx]
      unfold unEl
      rw [List.getElem?_map, List.getElem?_range hj]
      show some (getV f.kind _) = some x
      congr 1
      have hm : x ∈ ch.take f.count.toNat := List.mem_of_getElem? hx
      refine get_put (hall x hm) ?_
      rw [el_bytes, hp]
      unfold pkStep
      dsimp only
      rw [hch, List.append_assoc, ← h2, ← List.drop_drop, List.drop_left' (padL_len _ _ (le_upN _ _ ho.1))]
      exact flat_drop (putL f.kind) (szN f.kind) (fun x => putL_len _ x) _ j x rest hx
    · rw [List.getElem?_eq_none (by rw [unEl_len]; omega), List.getElem?_eq_none (by rw [List.length_take]; omega)]
theorem fitC_zero {fs : List Fld} {vs : List WI} (h : fitC fs vs = 0) : layC fs = 0 ∧ vs.length = sumN fs ∧ fitRun fs vs = true := by
  unfold fitC at h
  by_cases h1 : layC fs = 0
  · rw [if_pos h1] at h
    by_cases h2 : vs.length = sumN fs
    · rw [if_pos h2] at h
      by_cases h3 : fitRun fs vs = true
      · exact ⟨h1, h2, h3⟩
      · rw [if_neg h3] at h; omega
    · rw [if_neg h2] at h; omega
  · rw [if_neg h1] at h; omega
theorem packS_ok {fs : List Fld} {vs : List WI} (h : fitC fs vs = 0) : packS fs vs = ⟨(packL fs vs).toArray⟩ := by unfold packS; rw [if_pos h]
theorem packL_len {fs : List Fld} {vs : List WI} (h : fitC fs vs = 0) : (packL fs vs).length = pSize fs := by
  obtain ⟨h0, h1, _⟩ := fitC_zero h
  have hok := (layC_zero h0).2
  have h2 := pk_inv hok h1 fs.length (Nat.le_refl _)
  have h3 := pRun_le hok fs.length (Nat.le_refl _)
  rw [List.take_length] at h2 h3
  exact padL_len _ _ (by rw [h2.2.1]; exact le_upN _ _ h3.2.1)
/-- A packed value is unpacked as it was. -/
theorem back_yes {fs : List Fld} {vs : List WI} (h : fitC fs vs = 0) : unE fs (packS fs vs) = 0 ∧ unV fs (packS fs vs) = vs := by
  obtain ⟨h0, h1, h2⟩ := fitC_zero h
  have hrow : unRow fs (packS fs vs) = vs := by
    have := un_pack (layC_zero h0).2 h1 h2 fs.length (Nat.le_refl _)
    rw [List.take_length, ← h1, List.take_length] at this
    rw [packS_ok h]
    exact this
  have hs : (packS fs vs).size = pSize fs := by
    rw [packS_ok h, ← packL_len h]
    exact List.size_toArray ..
  have hk : unOk fs (packS fs vs) = true := by
    unfold unOk
    rw [hrow, h2, packS_ok h, decide_eq_true rfl]; rfl
  have he : unE fs (packS fs vs) = 0 := by rw [unE_ok h0 hs, hk]; rfl
  exact ⟨he, by unfold unV; rw [if_pos he, hrow]⟩
/-- What was unpacked is packed as the same bytes. -/
theorem back_bytes {fs : List Fld} {s : ByteArray} (h : unE fs s = 0) : fitC fs (unV fs s) = 0 ∧ packS fs (unV fs s) = s := by
  have hv : unV fs s = unRow fs s := by unfold unV; rw [if_pos h]
  unfold unE at h
  by_cases h0 : layC fs = 0
  · rw [if_pos h0] at h
    by_cases h1 : s.size = pSize fs
    · rw [if_pos h1] at h
      by_cases h2 : unOk fs s = true
      · unfold unOk at h2
        rw [Bool.and_eq_true] at h2
        obtain ⟨h3, h4⟩ := h2
        have h5 := (un_inv s fs fs.length (Nat.le_refl _)).2
        rw [List.take_length] at h5
        replace h5 : (unRow fs s).length = sumN fs := h5
        have h6 : fitC fs (unRow fs s) = 0 := by unfold fitC; rw [if_pos h0, if_pos h5, if_pos h3]
        rw [hv]
        exact ⟨h6, by rw [packS_ok h6]; exact of_decide_eq_true h4⟩
      · rw [if_neg h2] at h; omega
    · rw [if_neg h1] at h; omega
  · rw [if_neg h0] at h; omega
/-- Unlike values have unlike rows. -/
theorem pack_inj {fs : List Fld} {a b : List WI} (ha : fitC fs a = 0) (hb : fitC fs b = 0) (h : packS fs a = packS fs b) : a = b := by
  rw [← (back_yes ha).2, ← (back_yes hb).2, h]
end Go.Proofs.YtfehiclbcebnoaaGreat

namespace Go.Proofs.YtfehiclbcebnoaaGreat
open Go.RowKit Go.Proofs.Heap Go.Proofs.Sch Go.Proofs.Wide

/-- The row's size and the places of its fields, where the fields can be. -/
def ofSize (fs : List Fld) : Nat := if layC fs = 0 then pSize fs else 0
def ofAt (fs : List Fld) : List Nat := if layC fs = 0 then (pRun fs).2.2 else []
theorem at_len (fs : List Fld) : ∀ k, k ≤ fs.length → (pRun (fs.take k)).2.2.length = k
  | 0, _ => by rw [List.take_zero]; rfl
  | k + 1, hk => by
    have h1 := at_len fs k (by omega)
    obtain ⟨g, hg⟩ : ∃ f, fs[k]? = some f := ⟨fs[k], by simp [show k < fs.length by omega]⟩
    rw [pRun_next hg]
    unfold pStep
    simp [h1]

set_option maxRecDepth 20000 in
set_option maxHeartbeats 8000000 in
theorem lay_of (fs : List Fld) (p : Option Addr) (cap : Nat) (w : World) (hf : FP w w.heap.size p fs) :
    Calls Tryz.prog 58 #[.slice p fs.length cap] w fun r w' => ∃ a c, r = .returned (.tuple #[.agg #[iV (ofSize fs), .slice a (ofAt fs).length c], iV (layC fs)]) ∧ w'.ownsRow w.heap.size 3 1 (.slice a (ofAt fs).length c) (ofAt fs).length ((ofAt fs).map iV) ∧ Keep (fun _ => False) w w' := by
  have HF := hid hf
  clear hf
  obtain ⟨w0, hw0, hb0, hs0, hk0⟩ := box1 w #[.int .i64 0, .slice none 0 0] 95
  have HB0 := hid hb0; have HK0 := hid hk0; have HSW := hid hs0
  clear hb0 hk0 hs0
  have HF0 := hid (FP.mono (FP.low HF.out (Low.keep0 HK0.out)) HK0.out.size)
  go_enter Tryz.func58, Tryz.ntmps58
  go_upto_region 1 with fail
  rw [← hw0]
  clear hw0
  generalize hsb : w.heap.size = sb at *
  have HSB := hid hsb
  clear hsb
  go_wp2_with fail
  refine (layout_check fs _ cap _ HF0.out).mono ?_
  rintro r w1 ⟨rfl, hk1⟩
  have HK1 := hid (HK0.out.trans hk1); have HB1 := hid (hk1.get HB0.out id)
  have HF1 := hid (FP.mono (FP.low HF0.out (Low.keep0 hk1)) hk1.size)
  have HS1 : Hid (sb < w1.heap.size) := hid (by have := hk1.size; have := HSW.out; omega)
  clear hk1
  have HSZ : Hid (ofSize fs = if layC fs = 0 then pSize fs else 0) := hid rfl
  have HAT : Hid (ofAt fs = if layC fs = 0 then (pRun fs).2.2 else []) := hid rfl
  have HLC := hid (fun h : layC fs = 0 => layC_zero h)
  generalize hz : layC fs = z at *
  by_cases h0 : z = 0
  rotate_left
  · have g3 : ((z : Int) != 0) = true := by rw [bne, beq_eq_false_iff_ne.2 (show (z : Int) ≠ 0 by omega)]; rfl
    have g4 : (z != 0) = true := by rw [bne, beq_eq_false_iff_ne.2 h0]; rfl
    have G1 : Hid (ofSize fs = 0) := hid (by rw [HSZ.out, if_neg h0])
    have G2 : Hid (ofAt fs = []) := hid (by rw [HAT.out, if_neg h0])
    have GZ := hid hz
    clear h0 hz
    have b0 := free_of HB1.out 0
    have b1 := free_of HB1.out 1
    have bc0 := cell_of HB1.out (i := 0) (by rfl)
    have bc1 := cell_of HB1.out (i := 1) (by rfl)
    go_wp2
    (try simp only [Exit.inBlock, Exit.then])
    refine bodyPost_ret (results_ct rfl _ rfl (run_loadVar_row _ sb _ 95 _ _ _ (cells2 (.int .i64 0) (.slice none 0 0) HB1.out) Tryz.underlying95 rfl (by kernel_rfl))) rfl ?_
    rw [G1.out, G2.out, GZ.out]
    exact ⟨none, 0, rfl, World.ownsRow_nil _ _ _ _, (HK1.out.setCell_new (p := ⟨sb, 0, none⟩) (by have := HSB.out; show _ ≤ sb; omega) _).setCell_new (p := ⟨sb, 1, none⟩) (by have := HSB.out; show _ ≤ sb; omega) _⟩
  subst h0
  have hok := HLC.out rfl
  have hl8 := hok.1
  have HOK := hid hok.2
  have HPL := hid (fun w p (hf : FP w w.heap.size p fs) => plan_of fs p cap w hl8 hf hok.2)
  have G1 : Hid (ofSize fs = pSize fs) := hid (by rw [HSZ.out, if_pos rfl])
  have G2 : Hid (ofAt fs = (pRun fs).2.2) := hid (by rw [HAT.out, if_pos rfl])
  have G3 : Hid ((pRun fs).2.2.length = fs.length) := hid (by have := at_len fs fs.length (Nat.le_refl _); rwa [List.take_length] at this)
  have GZ := hid hz
  clear hz hok hl8
  go_wp2_with fail
  refine (HPL.out _ _ HF1.out).mono ?_
  rintro r w3 ⟨v, rfl, hown, hk3⟩
  obtain ⟨va, vc, rfl⟩ : ∃ a c, v = .slice a fs.length c := by
    rcases hown.2 with ⟨h, h2⟩ | ⟨g, cp, cur, h, _⟩
    · exact ⟨none, 0, by rw [h, h2]⟩
    · exact ⟨_, _, h⟩
  have HK3 := hid (HK1.out.trans hk3); have HB3 := hid (hk3.get HB1.out id); have HOWN := hid hown
  clear hk3 hown
  have b0 := free_of HB3.out 0
  have b1 := free_of HB3.out 1
  have bc0 := cell_of HB3.out (i := 0) (by rfl)
  have bc1 := cell_of HB3.out (i := 1) (by rfl)
  have HSZ2 : Hid (∀ n, pSize fs = n → ofSize fs = n) := hid (fun n h => by rw [G1.out, h])
  obtain ⟨sz, hsz⟩ : ∃ n, pSize fs = n := ⟨_, rfl⟩
  have HSZ3 := hid (HSZ2.out sz hsz)
  rw [hsz]
  clear hsz
  go_wp2
  (try simp only [Exit.inBlock, Exit.then])
  refine bodyPost_ret (results_ct rfl _ rfl (run_loadVar_row _ sb _ 95 _ _ _ (cells2 (.int .i64 (sz : Int)) (.slice va fs.length vc) HB3.out) Tryz.underlying95 rfl (by kernel_rfl))) rfl ?_
  rw [HSZ3.out, G2.out, GZ.out, G3.out]
  refine ⟨va, vc, rfl, ?_, (HK3.out.setCell_new (p := ⟨sb, 0, none⟩) (by have := HSB.out; show _ ≤ sb; omega) _).setCell_new (p := ⟨sb, 1, none⟩) (by have := HSB.out; show _ ≤ sb; omega) _⟩
  have hne : ∀ k, (Value.slice va fs.length vc).ownBlock = some k → k ≠ sb := fun k hk => by have := (HOWN.out.lt k hk).1; have := HS1.out; omega
  exact owns_mono (owns_keep HOWN.out (fun k hk => (hsc_ne _ (hne k hk)).trans (hsc_ne _ (hne k hk)))) (by have := HSB.out; have := HS1.out; omega)
end Go.Proofs.YtfehiclbcebnoaaGreat
