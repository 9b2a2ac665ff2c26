/- What is proved: strings.Builder's Len and String, strings.Repeat: contracts of the shelf, laid at this program (written by the shelf's own tools in their plain mode). -/
import Derived.Shelf.Strings.Builder1
import Derived.Shelf.Strings.Builder2
import Derived.Shelf.Strings.BuilderF
import Derived.Shelf.Strings.BuilderK
import Derived.Shelf.Strings.Repeat
import Derived.Test.YtlhdofkgcbmnnaaGreatProg
import Derived.Test.YtlhdofkgcbmnnaaGreatMSchFind
import Derived.Test.YtlhdofkgcbmnnaaGreatMHeap
import Derived.Test.YtlhdofkgcbmnnaaGreatMMapStr
import Derived.Test.YtlhdofkgcbmnnaaGreatMFget
import Derived.Test.YtlhdofkgcbmnnaaGreatMChk3
namespace Go.Proofs
open Go.Shelf
def Tryz.lays170_ren : Go.Shelf.Ren := ⟨fun | 170 => 86 | n => n, fun | 70 => 158 | 3 => 3 | 0 => 0 | 72 => 160 | 37 => 116 | 5 => 5 | n => n, fun | n => n⟩
theorem Tryz.lays170 : Go.Proofs.Lays.n170 Tryz.prog Tryz.lays170_ren := {
  mixed := by kernel_rfl
  f170 := Tryz.func86.trans (congrArg some (by kernel_rfl))
  t0 := Tryz.underlying0
  a0 := Tryz.isAgg0
  z0 := Tryz.sizeOf0
  v0 := Tryz.zeroValue0
  t3 := Tryz.underlying3
  a3 := Tryz.isAgg3
  z3 := Tryz.sizeOf3
  v3 := Tryz.zeroValue3
  t37 := Tryz.underlying116
  a37 := Tryz.isAgg116
  z37 := Tryz.sizeOf116
  v37 := Tryz.zeroValue116
  t70 := Tryz.underlying158
  a70 := Tryz.isAgg158
  z70 := Tryz.sizeOf158
  v70 := Tryz.zeroValue158
  t72 := Tryz.underlying160
  a72 := Tryz.isAgg160
  z72 := Tryz.sizeOf160
  v72 := Tryz.zeroValue160 }
def Tryz.lays169_ren : Go.Shelf.Ren := ⟨fun | 169 => 88 | n => n, fun | 70 => 158 | 9 => 9 | 0 => 0 | 72 => 160 | 37 => 116 | 127 => 218 | 3 => 3 | 5 => 5 | n => n, fun | n => n⟩
theorem Tryz.lays169 : Go.Proofs.Lays.n169 Tryz.prog Tryz.lays169_ren := {
  mixed := by kernel_rfl
  f169 := Tryz.func88.trans (congrArg some (by kernel_rfl))
  t0 := Tryz.underlying0
  a0 := Tryz.isAgg0
  z0 := Tryz.sizeOf0
  v0 := Tryz.zeroValue0
  t3 := Tryz.underlying3
  a3 := Tryz.isAgg3
  z3 := Tryz.sizeOf3
  v3 := Tryz.zeroValue3
  t9 := Tryz.underlying9
  a9 := Tryz.isAgg9
  z9 := Tryz.sizeOf9
  v9 := Tryz.zeroValue9
  t37 := Tryz.underlying116
  a37 := Tryz.isAgg116
  z37 := Tryz.sizeOf116
  v37 := Tryz.zeroValue116
  t70 := Tryz.underlying158
  a70 := Tryz.isAgg158
  z70 := Tryz.sizeOf158
  v70 := Tryz.zeroValue158
  t72 := Tryz.underlying160
  a72 := Tryz.isAgg160
  z72 := Tryz.sizeOf160
  v72 := Tryz.zeroValue160
  t127 := Tryz.underlying218
  a127 := Tryz.isAgg218
  z127 := Tryz.sizeOf218
  v127 := Tryz.zeroValue218 }
theorem Tryz.Builder_Extra_169 : Builder.Extra Tryz.prog Tryz.lays169_ren := {
  sizeBuilder := by kernel_rfl
  liesBuilder := by kernel_rfl
  t5 := Tryz.underlying5
  a5 := Tryz.isAgg5
  z5 := Tryz.sizeOf5
  v5 := Tryz.zeroValue5
  infoByte := by kernel_rfl
  cellsByte := by kernel_rfl
  sizeByte := by kernel_rfl
  neB5 := by decide }
open Go.RowKit in
theorem Tryz.Builder_Len_f (B b : Nat) (bs : List Value) (w : World) (h : Lib.IsBuilderF 160 5 B b bs w) :
    Calls Tryz.prog 86 #[.pointer (some ⟨b, 0, none⟩)] w fun e w' => e = .returned (.int .i64 bs.length) ∧ w' = w := Any.Builder_Len_f Tryz.lays170 B b bs w h
open Go.RowKit in
theorem Tryz.Builder_String_any_k (B b : Nat) (l : List UInt8) (w : World) (h : Lib.IsBuilderF 160 5 B b (Lib.byteCells l) w) (hBw : B ≤ w.heap.size) :
    Calls Tryz.prog 88 #[.pointer (some ⟨b, 0, none⟩)] w fun e w' => e = .returned (.string ⟨l.toArray⟩) ∧ (Lib.IsBuilderF 160 5 B b (Lib.byteCells l) w' ∧ Below B w w' ∧ Lib.OthersKept 5 (some b) w w') := Any.Builder_String_any_k Tryz.lays169 Tryz.Builder_Extra_169 B b l w h hBw
def Tryz.lays105_ren : Go.Shelf.Ren := ⟨fun | 105 => 85 | 212 => 126 | 99 => 127 | 165 => 128 | 166 => 84 | 170 => 86 | 169 => 88 | 263 => 175 | 264 => 176 | 206 => 177 | 240 => 125 | 241 => 178 | 276 => 174 | 277 => 195 | n => n, fun | 9 => 9 | 3 => 3 | 4 => 4 | 20 => 20 | 0 => 0 | 46 => 77 | 109 => 211 | 5 => 5 | 72 => 160 | 76 => 163 | 51 => 56 | 146 => 254 | 53 => 84 | 148 => 256 | 70 => 158 | 37 => 116 | 75 => 162 | 127 => 218 | 164 => 252 | 80 => 168 | n => n, fun | n => n⟩
theorem Tryz.lays105 : Go.Proofs.Lays.n105 Tryz.prog Tryz.lays105_ren := {
  mixed := by kernel_rfl
  f99 := Tryz.func127.trans (congrArg some (by kernel_rfl))
  f105 := Tryz.func85.trans (congrArg some (by kernel_rfl))
  f165 := Tryz.func128.trans (congrArg some (by kernel_rfl))
  f166 := Tryz.func84.trans (congrArg some (by kernel_rfl))
  f169 := Tryz.func88.trans (congrArg some (by kernel_rfl))
  f170 := Tryz.func86.trans (congrArg some (by kernel_rfl))
  f206 := Tryz.func177.trans (congrArg some (by kernel_rfl))
  f212 := Tryz.func126.trans (congrArg some (by kernel_rfl))
  f240 := Tryz.func125.trans (congrArg some (by kernel_rfl))
  f241 := Tryz.func178.trans (congrArg some (by kernel_rfl))
  f263 := Tryz.func175.trans (congrArg some (by kernel_rfl))
  f264 := Tryz.func176.trans (congrArg some (by kernel_rfl))
  f276 := Tryz.func174.trans (congrArg some (by kernel_rfl))
  f277 := Tryz.func195.trans (congrArg some (by kernel_rfl))
  t0 := Tryz.underlying0
  a0 := Tryz.isAgg0
  z0 := Tryz.sizeOf0
  v0 := Tryz.zeroValue0
  t3 := Tryz.underlying3
  a3 := Tryz.isAgg3
  z3 := Tryz.sizeOf3
  v3 := Tryz.zeroValue3
  t4 := Tryz.underlying4
  a4 := Tryz.isAgg4
  z4 := Tryz.sizeOf4
  v4 := Tryz.zeroValue4
  t5 := Tryz.underlying5
  a5 := Tryz.isAgg5
  z5 := Tryz.sizeOf5
  v5 := Tryz.zeroValue5
  t9 := Tryz.underlying9
  a9 := Tryz.isAgg9
  z9 := Tryz.sizeOf9
  v9 := Tryz.zeroValue9
  t20 := Tryz.underlying20
  a20 := Tryz.isAgg20
  z20 := Tryz.sizeOf20
  v20 := Tryz.zeroValue20
  t37 := Tryz.underlying116
  a37 := Tryz.isAgg116
  z37 := Tryz.sizeOf116
  v37 := Tryz.zeroValue116
  t46 := Tryz.underlying77
  a46 := Tryz.isAgg77
  z46 := Tryz.sizeOf77
  v46 := Tryz.zeroValue77
  t51 := Tryz.underlying56
  a51 := Tryz.isAgg56
  z51 := Tryz.sizeOf56
  v51 := Tryz.zeroValue56
  t53 := Tryz.underlying84
  a53 := Tryz.isAgg84
  z53 := Tryz.sizeOf84
  v53 := Tryz.zeroValue84
  t70 := Tryz.underlying158
  a70 := Tryz.isAgg158
  z70 := Tryz.sizeOf158
  v70 := Tryz.zeroValue158
  t72 := Tryz.underlying160
  a72 := Tryz.isAgg160
  z72 := Tryz.sizeOf160
  v72 := Tryz.zeroValue160
  t75 := Tryz.underlying162
  a75 := Tryz.isAgg162
  z75 := Tryz.sizeOf162
  v75 := Tryz.zeroValue162
  t76 := Tryz.underlying163
  a76 := Tryz.isAgg163
  z76 := Tryz.sizeOf163
  v76 := Tryz.zeroValue163
  t109 := Tryz.underlying211
  a109 := Tryz.isAgg211
  z109 := Tryz.sizeOf211
  v109 := Tryz.zeroValue211
  t127 := Tryz.underlying218
  a127 := Tryz.isAgg218
  z127 := Tryz.sizeOf218
  v127 := Tryz.zeroValue218
  t146 := Tryz.underlying254
  a146 := Tryz.isAgg254
  z146 := Tryz.sizeOf254
  v146 := Tryz.zeroValue254
  t148 := Tryz.underlying256
  a148 := Tryz.isAgg256
  z148 := Tryz.sizeOf256
  v148 := Tryz.zeroValue256
  t164 := Tryz.underlying252
  a164 := Tryz.isAgg252
  z164 := Tryz.sizeOf252
  v164 := Tryz.zeroValue252 }
theorem Tryz.Builder_Extra_105 : Builder.Extra Tryz.prog Tryz.lays105_ren := {
  sizeBuilder := by kernel_rfl
  liesBuilder := by kernel_rfl
  t5 := Tryz.underlying5
  a5 := Tryz.isAgg5
  z5 := Tryz.sizeOf5
  v5 := Tryz.zeroValue5
  infoByte := by kernel_rfl
  cellsByte := by kernel_rfl
  sizeByte := by kernel_rfl
  neB5 := by decide }
open Go.RowKit Go.Lib in
theorem Tryz.strings_Repeat (s : ByteArray) (c : Nat) (w : World) (hc : c ≤ 9223372036854775807) (hlen : s.size * c ≤ 140737488355328) :
    Calls Tryz.prog 85 #[.string s, .int .i64 c] w fun e w' => e = .returned (.string ⟨(Lib.repeatL s.data.toList c).toArray⟩) ∧ Below w.heap.size w w' := Any.strings_Repeat Tryz.lays105 Tryz.Builder_Extra_105 s c w hc hlen
end Go.Proofs

namespace Go.Proofs.YtlhdofkgcbmnnaaGreat
open Go.RowKit Go.Proofs.Heap Go.Proofs.Sch Go.Lib

/-- A builder in block b, its buffer from block B on. -/
abbrev BuiltA (B b : Nat) (bs : List Value) (w : World) : Prop := Lib.BuilderAtF 160 5 B b (.pointer (some ⟨b, 0, none⟩)) bs w
abbrev Built (B b : Nat) (bs : List Value) (w : World) : Prop := Lib.IsBuilderF 160 5 B b bs w

theorem results_tt2 {fn : Func} {p u : Tmp} (h : fn.results = #[.tmp p, .tmp u]) (tmps : Array Value) {P : Program} {w : World} : (results fn tmps).run P w = .ok (.tuple #[tmps.getD p undef, tmps.getD u undef]) w := by
  unfold results
  rw [h]
  simp
theorem size_bld : (Tryz.prog.info? 160).map (·.size) = some 2 := by kernel_rfl
theorem lies_bld : liesAt Tryz.prog Tryz.prog.depth 160 (2 / Tryz.prog.cellsOf 160) 0 160 1 = true := by kernel_rfl

set_option maxRecDepth 20000 in
set_option maxHeartbeats 8000000 in
theorem bld_check (B b : Nat) (bs : List Value) (w : World) (h : Built B b bs w) : Calls Tryz.prog 125 #[.pointer (some ⟨b, 0, none⟩)] w fun r w' => r = .returned (.tuple #[]) ∧ BuiltA B b bs w' ∧ Below B w w' ∧ Lib.OthersKept 5 (some b) w w' := by
  obtain ⟨j, hj, hjs⟩ := Option.map_eq_some_iff.1 size_bld
  have HJ := hid hj
  have HJS := hid hjs
  clear hj hjs
  rcases h with h | h
  · have c0 := h.cell0
    have fz := h.frozen0
    have HSH := hid h.shape
    have HE : Hid (BuiltA B b bs (w.setCell ⟨b, 0, none⟩ (.pointer (some ⟨b, 0, none⟩))) ∧ Below B w (w.setCell ⟨b, 0, none⟩ (.pointer (some ⟨b, 0, none⟩))) ∧ Lib.OthersKept 5 (some b) w (w.setCell ⟨b, 0, none⟩ (.pointer (some ⟨b, 0, none⟩)))) :=
      hid ⟨h.used _, (Below.refl B w).setCell (p := ⟨b, 0, none⟩) h.1 _, (Lib.OthersKept.refl _ _ w).setCell ⟨b, 0, none⟩ rfl _⟩
    clear h
    go_enter Tryz.func125, Tryz.ntmps125
    go_wp2
    rw [Lib.run_to_unsafe w ⟨b, 0, none⟩ Tryz.underlying158 Tryz.underlying252 HJ.out (by rw [HJS.out]; decide) HSH.out (Nat.zero_lt_succ 1)]
    simp only [Result.andThen]
    rw [Oper.upon_value]
    go_wp2
    rw [run_callFunc_extern Tryz.func174 (by kernel_rfl) (by kernel_rfl) (by kernel_rfl) (e := Extern.AbiNoEscape.same) (by kernel_rfl)]
    rw [Lib.run_noEscape]
    simp only [Result.andThen]
    rw [Oper.upon_value]
    go_wp2
    rw [Lib.run_from_unsafe w ⟨b, 0, none⟩ Tryz.underlying252 Tryz.underlying158 HJ.out HSH.out lies_bld]
    simp only [Result.andThen]
    rw [Oper.upon_value]
    go_wp2
    go_end0
    exact ⟨rfl, HE.out⟩
  · have c0 := h.cell0
    have H := hid h
    clear h
    go_enter Tryz.func125, Tryz.ntmps125
    go_wp2
    rw [Lib.run_neq_ptr_same w _ Tryz.underlying158 HJ.out]
    go_wp2
    go_end0
    exact ⟨rfl, H.out, Below.refl B _, Lib.OthersKept.refl _ _ _⟩
theorem ne_bld : 160 ≠ 5 := by decide
set_option maxRecDepth 20000 in
set_option maxHeartbeats 8000000 in
theorem bld_write (B b : Nat) (bs : List Value) (s : ByteArray) (w : World) (h : Built B b bs w) (hlen : bs.length + s.size ≤ 140737488355328) (hBw : B ≤ w.heap.size) : Calls Tryz.prog 84 #[.pointer (some ⟨b, 0, none⟩), .string s] w fun r w' => r = .returned (.tuple #[.int .i64 s.size, .nilIface]) ∧ BuiltA B b (bs ++ Lib.strCells s) w' ∧ Below B w w' ∧ Lib.OthersKept 5 (some b) w w' := by
  have H := hid h
  have HL := hid hlen
  have HB := hid hBw
  clear h hlen hBw
  go_enter Tryz.func84, Tryz.ntmps84
  go_wp2_with fail
  refine (bld_check B b bs _ H.out).mono ?_
  rintro r w1 ⟨rfl, h1, hb1, hk1⟩
  obtain ⟨hB, v, hbk, hown, hne⟩ := h1
  have c0 : w1.cell? ⟨b, 0, none⟩ = some (.pointer (some ⟨b, 0, none⟩)) := cell_of hbk (by rfl)
  have c1 : w1.cell? ⟨b, 1, none⟩ = some v := cell_of hbk (by rfl)
  have HB1 := hid hb1; have HK1 := hid hk1; have HBK := hid hbk; have HOWN := hid hown; have HNE := hid hne; have HBB := hid hB
  clear hb1 hk1 hbk hown hne hB
  obtain ⟨i0, hi, hz0, hz1, hz2⟩ := info_parts' info_u8
  go_wp2_with (at_builtin; refine Lib.wpList_append_own_stringF _ rfl _ _ 116 9 rfl B 5 i0 Tryz.underlying116 Tryz.underlying9 hi hz0 hz1 hz2 _ _ _ rfl HOWN.out s rfl ?c3 ?c4 ?c5 ?_)
  case c3 => have := HL.out; unfold maxLen; omega
  case c4 => exact HL.out
  case c5 => have := HB1.out.size; have := HB.out; omega
  intro v' w2 hown' hgrow _
  have hlt : b < w1.heap.size := (Array.getElem?_eq_some_iff.1 HBK.out).1
  have hb2 : w2.heap[b]? = some (.cells #[.pointer (some ⟨b, 0, none⟩), v] 160 (0, 0)) := by
    rw [hgrow.block b hlt (fun e => HNE.out e.symm)]
    exact HBK.out
  have d1 : w2.cell? ⟨b, 1, none⟩ = some v := cell_of hb2 (by rfl)
  have f1 : w2.frozen? ⟨b, 1, none⟩ = false := free_of hb2 1
  have HE : Hid (BuiltA B b (bs ++ Lib.strCells s) (w2.setCell ⟨b, 1, none⟩ v') ∧ Below B w (w2.setCell ⟨b, 1, none⟩ v') ∧ Lib.OthersKept 5 (some b) w (w2.setCell ⟨b, 1, none⟩ v')) :=
    hid ⟨Lib.BuilderAtF.put HBB.out hb2 (bs' := bs ++ Lib.strCells s) (by simpa [Lib.strCells_length] using hown') ne_bld,
      (HB1.out.grown hgrow (by have := HB1.out.size; have := HB.out; omega) (fun k hk => (HOWN.out.lt k hk).1)).setCell (p := ⟨b, 1, none⟩) HBB.out _,
      (HK1.out.grown hgrow (Lib.ownsRowF_kind HOWN.out)).setCell ⟨b, 1, none⟩ rfl _⟩
  obtain ⟨ao, n', cap, rfl⟩ : ∃ ao n' cap, v' = .slice ao n' cap := by
    rcases hown'.2 with ⟨hv, _⟩ | ⟨g, cap, cur, fz, hv, _⟩
    · exact ⟨_, _, _, hv⟩
    · exact ⟨_, _, _, hv⟩
  clear hown' hgrow hlt hb2 c0 c1
  go_wp2
  (try simp only [Exit.inBlock, Exit.then])
  refine bodyPost_ret (results_tt2 rfl _) rfl ?_
  exact ⟨rfl, HE.out⟩
/-- A builder stays over blocks that are new. -/
theorem Built.keep0 {B b : Nat} {p : Value} {bs : List Value} {w w' : World} (h : Lib.BuilderAtF 160 5 B b p bs w) (hk : Keep (fun _ => False) w w') : Lib.BuilderAtF 160 5 B b p bs w' := by
  obtain ⟨hB, v, hb, hown, hne⟩ := h
  refine ⟨hB, v, hk.get hb id, ⟨hown.1, ?_⟩, hne⟩
  rcases hown.2 with hn | ⟨g, cap, cur, fz, hv, hbg, hg, rest⟩
  · exact .inl hn
  · exact .inr ⟨g, cap, cur, fz, hv, hbg, hk.get hg id, rest⟩
end Go.Proofs.YtlhdofkgcbmnnaaGreat

namespace Go.Proofs.YtlhdofkgcbmnnaaGreat
open Go.RowKit Go.Proofs.Heap Go.Proofs.Sch Go.Lib

theorem cells_str (l : List UInt8) : Lib.strCells ⟨l.toArray⟩ = Lib.byteCells l := rfl
theorem cells_app (a b : List UInt8) : Lib.byteCells (a ++ b) = Lib.byteCells a ++ Lib.byteCells b := List.map_append
theorem cells_len (a : List UInt8) : (Lib.byteCells a).length = a.length := List.length_map _
theorem repeat_zeros (c : Nat) : Lib.repeatL [(0 : UInt8)] c = List.replicate c 0 := by
  induction c with
  | zero => rfl
  | succ n ih => rw [Lib.repeatL, ih]; rfl
/-- Noughts up to a place. -/
def padL (l : List UInt8) (m : Nat) : List UInt8 := l ++ List.replicate (m - l.length) 0

/-- What a builder's change leaves: blocks below, and all that are no bytes. -/
structure Wrote (b : Nat) (w w' : World) : Prop where
  low : Below b w w'
  others : Lib.OthersKept 5 (some b) w w'
theorem Wrote.trans {b : Nat} {w w' w'' : World} (h : Wrote b w w') (k : Wrote b w' w'') : Wrote b w w'' :=
  ⟨⟨by rw [k.low.os, h.low.os], by rw [k.low.tape, h.low.tape], by rw [k.low.output, h.low.output], Nat.le_trans h.low.size k.low.size, fun i hi => by rw [k.low.block i hi, h.low.block i hi]⟩, h.others.trans k.others⟩
theorem Wrote.of_keep {b : Nat} {w w' : World} (hb : b ≤ w.heap.size) (k : Keep (fun _ => False) w w') : Wrote b w w' :=
  ⟨⟨k.os, k.tape, k.output, k.size, fun i hi => k.block i (Nat.lt_of_lt_of_le hi hb) id⟩, fun _ _ hi _ _ => k.get hi id⟩
theorem Wrote.keep {w w1 w2 : World} (h : Keep (fun _ => False) w w1) (k : Wrote w.heap.size w1 w2) : Keep (fun _ => False) w w2 :=
  ⟨by rw [k.low.os, h.os], by rw [k.low.tape, h.tape], by rw [k.low.output, h.output], Nat.le_trans h.size k.low.size, fun i hi _ => by rw [k.low.block i hi, h.block i hi id]⟩

set_option maxRecDepth 20000 in
set_option maxHeartbeats 8000000 in
theorem pad_of (b : Nat) (l : List UInt8) (m : Nat) (w : World) (h : Built b b (Lib.byteCells l) w) (hle : l.length ≤ m) (hto : m ≤ 4096) (hbw : b ≤ w.heap.size) :
    Calls Tryz.prog 83 #[.int .i64 (m : Int), .pointer (some ⟨b, 0, none⟩)] w fun r w' => r = .returned (.tuple #[]) ∧ BuiltA b b (Lib.byteCells (padL l m)) w' ∧ Wrote b w w' := by
  have H := hid h; have HL := hid hle; have HT := hid hto; have HB := hid hbw
  clear h hbw
  go_enter Tryz.func83, Tryz.ntmps83
  go_wp2_with fail
  refine (Tryz.Builder_Len_f b b _ _ H.out).mono ?_
  rintro r w_ ⟨rfl, rfl⟩
  rw [cells_len]
  obtain ⟨c, hc⟩ : ∃ c, m - l.length = c := ⟨_, rfl⟩
  have hsub : ((m : Int) - (l.length : Int)) = (c : Int) := by omega
  have HC : Hid (m - l.length = c) := hid hc
  have hc4 : c ≤ 4096 := by omega
  have HPL : Hid (padL l m = l ++ List.replicate c 0) := hid (by unfold padL; rw [hc])
  obtain ⟨ln, hln⟩ : ∃ ln, l.length = ln := ⟨_, rfl⟩
  rw [hln] at hsub ⊢
  have HLN := hid hln
  rw [hln] at hle
  clear hc hln
  go_wp2_with fail
  refine (Tryz.strings_Repeat ⟨#[0]⟩ c _ (by omega) (by show 1 * c ≤ _; omega)).mono ?_
  rintro r w2 ⟨rfl, hb2⟩
  have hk2 : Keep (fun _ => False) w_ w2 := Keep.of_below hb2
  have e : Lib.repeatL (⟨#[0]⟩ : ByteArray).data.toList c = List.replicate c 0 := repeat_zeros c
  rw [e]
  have HW2 := hid (Wrote.of_keep HB.out hk2)
  have HB2 : Hid (b ≤ w2.heap.size) := hid (Nat.le_trans HB.out hk2.size)
  have H2 : Hid (Built b b (Lib.byteCells l) w2) := hid (H.out.elim (fun h => .inl (Built.keep0 h hk2)) (fun h => .inr (Built.keep0 h hk2)))
  clear hb2 hk2 e
  go_wp2_with fail
  refine (bld_write b b _ _ _ H2.out (by rw [cells_len]; show l.length + (List.replicate c (0 : UInt8)).toArray.size ≤ _; simp; have := HLN.out; omega) HB2.out).mono ?_
  rintro r w3 ⟨rfl, h3, hb3, ho3⟩
  have H3 := hid h3
  have HW3 := hid (HW2.out.trans ⟨hb3, ho3⟩)
  clear h3 hb3 ho3
  go_wp2
  go_end0
  refine ⟨rfl, ?_, HW3.out⟩
  rw [HPL.out, cells_app]
  exact H3.out
end Go.Proofs.YtlhdofkgcbmnnaaGreat

namespace Go.Proofs.YtlhdofkgcbmnnaaGreat
open Go.RowKit Go.Proofs.Heap Go.Proofs.Sch Go.Proofs.Wide

def pkStep (st : List UInt8 × List WI) (f : Fld) : List UInt8 × List WI :=
  (padL st.1 (upN st.1.length (szN f.kind)) ++ (st.2.take f.count.toNat).flatMap (putL f.kind), st.2.drop f.count.toNat)
def pkRun (fs : List Fld) (vs : List WI) : List UInt8 × List WI := fs.foldl pkStep ([], vs)
/-- The row of a value that fits. -/
def packL (fs : List Fld) (vs : List WI) : List UInt8 := padL (pkRun fs vs).1 (pSize fs)
def packS (fs : List Fld) (vs : List WI) : ByteArray := if fitC fs vs = 0 then ⟨(packL fs vs).toArray⟩ else ⟨#[]⟩

theorem pkRun_next {fs : List Fld} {vs : List WI} {k : Nat} {f : Fld} (h : fs[k]? = some f) : pkRun (fs.take (k + 1)) vs = pkStep (pkRun (fs.take k) vs) f := by
  unfold pkRun; rw [take_next h, List.foldl_append]; rfl
theorem le_upN (a s : Nat) (hs : 1 ≤ s) : a ≤ upN a s := by
  unfold upN
  have h := Nat.div_add_mod (a + s - 1) s
  have h2 := Nat.mod_lt (a + s - 1) (show 0 < s by omega)
  rw [Nat.mul_comm] at h
  omega
theorem putL_len (k : Int) (x : WI) : (putL k x).length = szN k := leL_len _ _
theorem flat_len {α : Type} (g : α → List UInt8) (c : Nat) : ∀ l : List α, (∀ x ∈ l, (g x).length = c) → (l.flatMap g).length = l.length * c
  | [], _ => by simp
  | x :: r, h => by
    rw [List.flatMap_cons, List.length_append, h x (by simp), flat_len g c r (fun y hy => h y (by simp [hy])), List.length_cons, Nat.add_mul]
    omega
theorem padL_len (l : List UInt8) (m : Nat) (h : l.length ≤ m) : (padL l m).length = m := by
  unfold padL
  rw [List.length_append, List.length_replicate]
  omega
/-- Behind each field: how long the row is, what is left of the numbers. -/
theorem pk_inv {fs : List Fld} {vs : List WI} (hok : ∀ f ∈ fs, okF f) (hlen : vs.length = sumN fs) : ∀ k, k ≤ fs.length →
    (pkRun (fs.take k) vs).2 = vs.drop (sumN (fs.take k)) ∧ (pkRun (fs.take k) vs).1.length = (pRun (fs.take k)).1 ∧ (pkRun (fs.take k) vs).2.length = sumN (fs.drop k)
  | 0, _ => by
    rw [List.take_zero, List.drop_zero]
    exact ⟨rfl, rfl, hlen⟩
  | k + 1, hk => by
    obtain ⟨h1, h2, h3⟩ := pk_inv hok hlen k (by omega)
    obtain ⟨f, hf⟩ : ∃ f, fs[k]? = some f := ⟨fs[k], by simp [show k < fs.length by omega]⟩
    have ho := hok f (List.mem_of_getElem? hf)
    have hd : sumN (fs.drop k) = f.count.toNat + sumN (fs.drop (k + 1)) := by rw [drop_next hf]; rfl
    rw [pkRun_next hf, pRun_next hf]
    unfold pkStep pStep
    refine ⟨?_, ?_, ?_⟩
    · show ((pkRun (fs.take k) vs).2).drop f.count.toNat = _
      rw [h1, List.drop_drop, sumN_next hf]
    · show (padL (pkRun (fs.take k) vs).1 (upN (pkRun (fs.take k) vs).1.length (szN f.kind)) ++ ((pkRun (fs.take k) vs).2.take f.count.toNat).flatMap (putL f.kind)).length = upN (pRun (fs.take k)).1 (szN f.kind) + szN f.kind * f.count.toNat
      rw [List.length_append, padL_len _ _ (le_upN _ _ ho.1), flat_len _ (szN f.kind) _ (fun x _ => putL_len _ x), h2, List.length_take, h3, Nat.min_eq_left (by omega), Nat.mul_comm]
    · show (((pkRun (fs.take k) vs).2).drop f.count.toNat).length = _
      rw [List.length_drop, h3]
      omega
/-- Where a field begins. -/
theorem at_of (fs : List Fld) : ∀ k, k ≤ fs.length → (pRun (fs.take k)).2.2.length = k ∧ ∀ i f, i < k → fs[i]? = some f → (pRun (fs.take k)).2.2[i]? = some (upN (pRun (fs.take i)).1 (szN f.kind))
  | 0, _ => by
    rw [List.take_zero]
    exact ⟨rfl, fun i f h => by omega⟩
  | k + 1, hk => by
    obtain ⟨h1, h2⟩ := at_of fs k (by omega)
    obtain ⟨g, hg⟩ : ∃ f, fs[k]? = some f := ⟨fs[k], by simp [show k < fs.length by omega]⟩
    rw [pRun_next hg]
    unfold pStep
    refine ⟨by simp [h1], fun i f hi hf => ?_⟩
    dsimp only
    by_cases he : i = k
    · subst he
      rw [hg] at hf
      injection hf with hf
      subst hf
      rw [List.getElem?_append_right (by omega), h1, Nat.sub_self]
      rfl
    · rw [List.getElem?_append_left (by omega)]
      exact h2 i f (by omega) hf
theorem pRun_le {fs : List Fld} (hok : ∀ f ∈ fs, okF f) : ∀ k, k ≤ fs.length → (pRun (fs.take k)).1 ≤ 71 * k ∧ 1 ≤ (pRun (fs.take k)).2.1 ∧ (pRun (fs.take k)).2.1 ≤ 8
  | 0, _ => by
    rw [List.take_zero]
    exact ⟨Nat.le_refl _, Nat.le_refl _, by show 1 ≤ 8; omega⟩
  | k + 1, hk => by
    obtain ⟨h1, h2⟩ := pRun_le hok k (by omega)
    obtain ⟨f, hf⟩ : ∃ f, fs[k]? = some f := ⟨fs[k], by simp [show k < fs.length by omega]⟩
    have := pStep_le h1 h2 (hok f (List.mem_of_getElem? hf))
    rw [pRun_next hf]
    exact ⟨by omega, this.2⟩
theorem fitRun_drop {fs : List Fld} {vs : List WI} (h : fitRun fs vs = true) : ∀ k, k ≤ fs.length → fitRun (fs.drop k) (pkRun (fs.take k) vs).2 = true
  | 0, _ => by
    rw [List.take_zero, List.drop_zero]
    exact h
  | k + 1, hk => by
    have ih := fitRun_drop h k (by omega)
    obtain ⟨f, hf⟩ : ∃ f, fs[k]? = some f := ⟨fs[k], by simp [show k < fs.length by omega]⟩
    rw [drop_next hf, fitRun, Bool.and_eq_true] at ih
    rw [pkRun_next hf]
    exact ih.2
theorem fitRun_at {fs : List Fld} {vs : List WI} (h : fitRun fs vs = true) {k : Nat} {f : Fld} (hf : fs[k]? = some f) : ∀ x ∈ (pkRun (fs.take k) vs).2.take f.count.toNat, fitsB f.kind x = true := by
  have hk : k < fs.length := (List.getElem?_eq_some_iff.1 hf).1
  have ih := fitRun_drop h k (by omega)
  rw [drop_next hf, fitRun, Bool.and_eq_true, List.all_eq_true] at ih
  exact ih.1
end Go.Proofs.YtlhdofkgcbmnnaaGreat

namespace Go.Proofs.YtlhdofkgcbmnnaaGreat
open Go.RowKit Go.Proofs.Heap Go.Proofs.Sch

def ApartC (a b : Cmp) : Prop := a.id < b.id ∧ a.name ≠ b.name
/-- What Check asks of the components. -/
def GoodC (last : Int) (seen : List ByteArray) (cs : List Cmp) : Prop :=
  (∀ c ∈ cs, last < c.id ∧ c.id ≤ 24 ∧ nameB c.name = true ∧ memB c.name seen = false ∧ fieldsC c.fs = 0) ∧ cs.Pairwise ApartC

theorem memB_snoc (s m : ByteArray) (ns : List ByteArray) : memB s (ns ++ [m]) = false ↔ memB s ns = false ∧ s ≠ m := by
  unfold memB
  rw [List.any_append]
  simp [Bool.or_eq_false_iff]

theorem compsC_iff : ∀ (cs : List Cmp) (last : Int) (seen : List ByteArray), compsC last seen cs = 0 ↔ GoodC last seen cs
  | [], last, seen => by simp [compsC, GoodC]
  | c :: r, last, seen => by
    unfold compsC
    have ih := compsC_iff r c.id (seen ++ [c.name])
    by_cases h1 : c.id ≤ last ∨ 24 < c.id
    · rw [if_pos h1]
      refine ⟨fun h => by omega, fun h => ?_⟩
      have := h.1 c (List.mem_cons_self ..)
      omega
    rw [if_neg h1]
    by_cases h2 : nameB c.name = false ∨ memB c.name seen = true
    · rw [if_pos h2]
      refine ⟨fun h => by omega, fun h => ?_⟩
      have h3 := h.1 c (List.mem_cons_self ..)
      rcases h2 with e | e
      · rw [e] at h3; simp at h3
      · rw [e] at h3; simp at h3
    rw [if_neg h2]
    by_cases h3 : fieldsC c.fs = 0
    · rw [if_pos h3, ih]
      have hn : nameB c.name = true := by
        cases e : nameB c.name
        · exact absurd (.inl e) h2
        · rfl
      have hm : memB c.name seen = false := by
        cases e : memB c.name seen
        · rfl
        · exact absurd (.inr e) h2
      constructor
      · rintro ⟨ha, hp⟩
        refine ⟨fun d hd => ?_, List.pairwise_cons.2 ⟨fun d hd => ?_, hp⟩⟩
        · rcases List.mem_cons.1 hd with rfl | hd
          · exact ⟨by omega, by omega, hn, hm, h3⟩
          · obtain ⟨a1, a2, a3, a4, a5⟩ := ha d hd
            exact ⟨by omega, a2, a3, ((memB_snoc _ _ _).1 a4).1, a5⟩
        · obtain ⟨a1, _, _, a4, _⟩ := ha d hd
          exact ⟨a1, fun e => ((memB_snoc _ _ _).1 a4).2 e.symm⟩
      · rintro ⟨ha, hp⟩
        obtain ⟨hp1, hp2⟩ := List.pairwise_cons.1 hp
        refine ⟨fun d hd => ?_, hp2⟩
        obtain ⟨_, a2, a3, a4, a5⟩ := ha d (List.mem_cons_of_mem _ hd)
        exact ⟨(hp1 d hd).1, a2, a3, (memB_snoc _ _ _).2 ⟨a4, fun e => (hp1 d hd).2 e.symm⟩, a5⟩
    · rw [if_neg h3]
      exact ⟨fun h => absurd h h3, fun h => absurd (h.1 c (List.mem_cons_self ..)).2.2.2.2 h3⟩

/-- A schema that can be. -/
def GoodS (v : Int) (cs : List Cmp) : Prop := (1 ≤ v ∧ v ≤ 1073741824) ∧ GoodC 0 [] cs
theorem checkC_iff (v : Int) (cs : List Cmp) : checkC v cs = 0 ↔ GoodS v cs := by
  unfold checkC GoodS
  by_cases h : v < 1 ∨ 1073741824 < v
  · rw [if_pos h]
    exact ⟨fun h => by omega, fun h => by omega⟩
  · rw [if_neg h, compsC_iff]
    exact ⟨fun hg => ⟨by omega, hg⟩, fun hg => hg.2⟩
theorem GoodC.sub {last : Int} {seen : List ByteArray} {cs ds : List Cmp} (h : GoodC last seen cs) (hs : ds.Sublist cs) : GoodC last seen ds :=
  ⟨fun c hc => h.1 c (hs.subset hc), h.2.sublist hs⟩
theorem checkC_less {v : Int} {cs : List Cmp} (h : checkC v cs = 0) (k : Nat) : checkC v (cs.take k ++ cs.drop (k + 1)) = 0 := by
  rw [checkC_iff] at h ⊢
  refine ⟨h.1, h.2.sub ?_⟩
  have h1 : (cs.take k ++ cs.drop (k + 1)).Sublist (cs.take k ++ cs.drop k) := by
    refine List.Sublist.append (List.Sublist.refl _) ?_
    rw [← List.drop_drop]
    exact List.drop_sublist _ _
  rwa [List.take_append_drop] at h1

/-- What differs from all that came earlier is found where it is. -/
theorem pair_idx {α β : Type} [DecidableEq β] (f : α → β) {l : List α} (h : l.Pairwise (fun a b => f a ≠ f b)) {k : Nat} {x : α} (hk : l[k]? = some x) : idxI (fun y => decide (f y = f x)) l = (k : Int) := by
  refine idx_at hk (decide_eq_true rfl) (fun y hy => decide_eq_false ?_)
  obtain ⟨i, hi⟩ := List.getElem?_of_mem hy
  have hlt := (List.getElem?_eq_some_iff.1 hi).1
  rw [List.length_take] at hlt
  rw [List.getElem?_take_of_lt (by omega)] at hi
  obtain ⟨h1, rfl⟩ := List.getElem?_eq_some_iff.1 hi
  obtain ⟨h2, rfl⟩ := List.getElem?_eq_some_iff.1 hk
  exact (List.pairwise_iff_getElem.1 h) i k h1 h2 (by omega)
theorem GoodS.id_idx {v : Int} {cs : List Cmp} (h : GoodS v cs) {k : Nat} {c : Cmp} (hk : cs[k]? = some c) : idxI (fun y => decide (y.id = c.id)) cs = (k : Int) :=
  pair_idx Cmp.id (h.2.2.imp fun hab => by have := hab.1; omega) hk
theorem GoodS.name_idx {v : Int} {cs : List Cmp} (h : GoodS v cs) {k : Nat} {c : Cmp} (hk : cs[k]? = some c) : idxI (fun y => decide (y.name = c.name)) cs = (k : Int) :=
  pair_idx Cmp.name (h.2.2.imp fun hab => hab.2) hk

theorem fldBad_iff : ∀ (fs : List Fld) (seen : List ByteArray), fldBad seen fs = false → (∀ f ∈ fs, nameB f.name = true ∧ memB f.name seen = false) ∧ fs.Pairwise (fun a b => a.name ≠ b.name)
  | [], _, _ => ⟨fun _ h => by simp at h, .nil⟩
  | f :: r, seen, h => by
    unfold fldBad at h
    simp only [Bool.or_eq_false_iff, Bool.not_eq_false'] at h
    obtain ⟨h1, h2, h3⟩ := h
    obtain ⟨ha, hp⟩ := fldBad_iff r _ h3
    refine ⟨fun d hd => ?_, List.pairwise_cons.2 ⟨fun d hd => ?_, hp⟩⟩
    · rcases List.mem_cons.1 hd with rfl | hd
      · exact ⟨h1, h2⟩
      · exact ⟨(ha d hd).1, ((memB_snoc _ _ _).1 (ha d hd).2).1⟩
    · exact fun e => ((memB_snoc _ _ _).1 (ha d hd).2).2 e.symm
theorem fieldsC_zero {fs : List Fld} (h : fieldsC fs = 0) : fldBad [] fs = false ∧ layC fs = 0 := by
  unfold fieldsC at h
  cases e : fldBad [] fs
  · rw [e] at h; simp at h; exact ⟨rfl, h⟩
  · rw [e] at h; simp at h
theorem GoodS.field_idx {v : Int} {cs : List Cmp} (h : GoodS v cs) {c : Cmp} (hc : c ∈ cs) {j : Nat} {f : Fld} (hj : c.fs[j]? = some f) : idxI (fun y : Fld => decide (y.name = f.name)) c.fs = (j : Int) :=
  pair_idx Fld.name (fldBad_iff _ _ (fieldsC_zero (h.2.1 c hc).2.2.2.2).1).2 hj
end Go.Proofs.YtlhdofkgcbmnnaaGreat

namespace Go.Proofs.YtlhdofkgcbmnnaaGreat
open Go.RowKit Go.Proofs.Heap Go.Proofs.Sch

theorem idx_cases {α : Type} (q : α → Bool) (l : List α) : idxI q l = -1 ∨ ∃ (k : Nat) (x : α), idxI q l = (k : Int) ∧ l[k]? = some x ∧ q x = true ∧ k < l.length := by
  unfold idxI
  cases h : l.findIdx? q with
  | none => exact .inl rfl
  | some k =>
    obtain ⟨hk, h1, _⟩ := List.findIdx?_eq_some_iff_getElem.1 h
    exact .inr ⟨k, l[k], rfl, List.getElem?_eq_getElem hk, h1, hk⟩

/-- What a search answers: the first one, with a row of its own, or none. -/
def Found (B : Nat) (w' : World) (q : Cmp → Bool) (cs : List Cmp) (r : Ending) : Prop :=
  (∃ (k : Nat) (c : Cmp) (p : Option Addr) (z : Nat), idxI q cs = (k : Int) ∧ cs[k]? = some c ∧ q c = true ∧ r = .returned (.tuple #[.agg #[.int .i64 c.id, .string c.name, .slice p c.fs.length z], .bool true]) ∧ c.fs.length ≤ z ∧ w'.ownsRow B 83 3 (.slice p c.fs.length z) c.fs.length (c.fs.flatMap fcl)) ∨
  (idxI q cs = -1 ∧ r = .returned (.tuple #[.agg #[.int .i64 0, .string ⟨#[]⟩, .slice none 0 0], .bool false]))

set_option maxRecDepth 20000 in
set_option maxHeartbeats 2000000 in
theorem find_id (id : Int) (cb : Nat) (v : Int) (cs : List Cmp) (p : Option Addr) (cap : Nat) (w : World) (hl : Small cs) (hf : CP w w.heap.size p cs) (hc : w.cell? ⟨cb, 0, none⟩ = some (.int .i64 id)) :
    Calls Tryz.prog 92 #[.agg #[.int .i64 v, .slice p cs.length cap], .func (.func 93) #[] #[.pointer (some ⟨cb, 0, none⟩)]] w fun r w' => Found w.heap.size w' (fun c => decide (c.id = id)) cs r ∧ Keep (fun _ => False) w w' := by
  have hk0 := ((Keep.refl (fun _ => False) w).alloc (.cells #[.int .i64 v, .slice p cs.length cap] 33)).alloc (.cells #[.int .i64 0, .string ⟨#[]⟩, .slice none 0 0] 24)
  have hb1 := ((Keep.refl (fun _ => False) (w.alloc (.cells #[.int .i64 v, .slice p cs.length cap] 33))).alloc (.cells #[.int .i64 0, .string ⟨#[]⟩, .slice none 0 0] 24)).get (heap_alloc_new w (.cells #[.int .i64 v, .slice p cs.length cap] 33)) (fun h => h)
  have hb2 := heap_alloc_new (w.alloc (.cells #[.int .i64 v, .slice p cs.length cap] 33)) (.cells #[.int .i64 0, .string ⟨#[]⟩, .slice none 0 0] 24)
  have hsz : (w.alloc (.cells #[.int .i64 v, .slice p cs.length cap] 33)).heap.size = w.heap.size + 1 := by simp
  rw [hsz] at hb2
  have hlow := Low.keep0 hk0
  have hc2 := (hlow.cell (o := 0) (World.block_lt_of_cell? w _ hc)).trans hc
  have HC2 := hid hc2
  have HF := hid (CP.mono (CP.low hf hlow) hk0.size)
  have HK0 := hid hk0; have HB1 := hid hb1; have HB2 := hid hb2
  have HL := hid hl
  have hl1 := hl.1
  have hsq := hk0.size
  clear hl hf hb1 hb2 hk0 hsz hlow hc hc2 hsq
  go_enter Tryz.func92, Tryz.ntmps92
  go_upto_region 1 with fail
  generalize (w.alloc (.cells #[.int .i64 v, .slice p cs.length cap] 33)).alloc (.cells #[.int .i64 0, .string ⟨#[]⟩, .slice none 0 0] 24) = w0 at *
  have HSB : Hid (w.heap.size + 1 < w0.heap.size) := hid (lt_of_heap HB2.out)
  generalize hsb : w.heap.size = sb at *
  have d1 : w0.cell? ⟨sb, 1, none⟩ = some (.slice p cs.length cap) := cell_of HB1.out (by rfl)
  go_wp2_with fail
  refine (idx_find id cb cs p cap _ hl1 HF.out HC2.out).mono ?_
  rintro r w1 ⟨rfl, hk1⟩
  have HK1 := hid (HK0.out.trans hk1)
  have HB1' := hid (hk1.get HB1.out (fun h => h)); have HB2' := hid (hk1.get HB2.out (fun h => h))
  have HF1 := hid (CP.mono (CP.low HF.out (Low.keep0 hk1)) hk1.size)
  have HS1 := hid (Nat.lt_of_lt_of_le HSB.out hk1.size)
  clear hk1 d1
  have HCS := hid (idx_cases (fun c => decide (c.id = id)) cs)
  generalize hz : idxI (fun c => decide (c.id = id)) cs = z at *
  have HZ := hid hz
  clear hz
  rcases HCS.out with h | ⟨k, c, h, hck, hqc, hkl⟩
  · subst h
    have c0 := cell_of HB2'.out (i := 0) (by rfl)
    have c1 := cell_of HB2'.out (i := 1) (by rfl)
    have c2 := cell_of HB2'.out (i := 2) (by rfl)
    have f0 := free_of HB2'.out 0
    have f1 := free_of HB2'.out 1
    have f2 := free_of HB2'.out 2
    have g1 : decide ((-1 : Int) < 0) = true := by decide
    go_wp2
    (try simp only [Exit.inBlock, Exit.then])
    refine bodyPost_ret (results_ct rfl _ rfl (run_loadVar_row _ (sb + 1) _ 24 _ _ _ (cells3 (.int .i64 0) (.string ⟨#[]⟩) (.slice none 0 0) HB2'.out) Tryz.underlying24 rfl (by kernel_rfl))) rfl ?_
    exact ⟨.inr ⟨HZ.out, rfl⟩, ((HK1.out.setCell_new (by simp [hsb]) _).setCell_new (by simp [hsb]) _).setCell_new (by simp [hsb]) _⟩
  · subst h
    have g1 : decide ((k : Int) < 0) = false := decide_eq_false (by omega)
    obtain ⟨b, off, fq, fk, rfl, hb, c0, c1, c2, hle, hff⟩ := CP.at HF1.out hck
    have hin : (0 : Int) ≤ (k : Int) ∧ (k : Int) < (cs.length : Int) := ⟨by omega, by omega⟩
    have hxl := HL.out.2 c (List.mem_of_getElem? hck)
    have d1 : w1.cell? ⟨sb, 1, none⟩ = some (.slice (some ⟨b, off, none⟩) cs.length cap) := cell_of HB1'.out (by rfl)
    have hk2 := (Keep.refl (fun _ => False) w1).alloc (.cells #[.int .i64 c.id, .string c.name, .slice fq c.fs.length fk] 24)
    have HFF := hid (FP.mono (FP.low hff (Low.keep0 hk2)) hk2.size)
    have HCB := hid (heap_alloc_new w1 (.cells #[.int .i64 c.id, .string c.name, .slice fq c.fs.length fk] 24))
    have HK2 := hid (HK1.out.trans hk2); have HB3 := hid (hk2.get HB2'.out (fun h => h))
    have HCK := hid hck; have HQC := hid hqc
    clear hff hk2 hck hqc
    go_wp2_with fail
    generalize w1.alloc (.cells #[.int .i64 c.id, .string c.name, .slice fq c.fs.length fk] 24) = wa at *
    have hqs := HS1.out
    have HQN : Hid (w1.heap.size ≠ sb + 1) := hid (by omega)
    have HSQ := hid (Nat.le_trans HK1.out.size (Nat.le_refl _))
    generalize w1.heap.size = q at *
    refine (clone_fields c.fs fq fk _ hxl HFF.out).mono ?_
    rintro r w3 ⟨p2, z2, rfl, hz2, hown, hk3⟩
    have HK3 := hid (HK2.out.trans hk3)
    have HCB3 := hid (hk3.get HCB.out (fun h => h)); have HB4 := hid (hk3.get HB3.out (fun h => h))
    have HOWN := hid hown
    have HLQ := hid (lt_of_heap HCB.out)
    have e0 := cell_of HCB3.out (i := 0) (by rfl)
    have e1 := cell_of HCB3.out (i := 1) (by rfl)
    have e2 := cell_of HCB3.out (i := 2) (by rfl)
    have e3 := free_of HCB3.out 2
    have c0 := cell_of HB4.out (i := 0) (by rfl)
    have c1 := cell_of HB4.out (i := 1) (by rfl)
    have c2 := cell_of HB4.out (i := 2) (by rfl)
    have f0 := free_of HB4.out 0
    have f1 := free_of HB4.out 1
    have f2 := free_of HB4.out 2
    have HWS : Hid (wa.heap.size ≤ w3.heap.size) := hid hk3.size
    have HW1 : Hid (w.heap.size ≤ w3.heap.size) := hid HK3.out.size
    clear hk3 hown
    go_wp2
    (try simp only [Exit.inBlock, Exit.then])
    have hr := cells3 (.int .i64 c.id) (.string c.name) (.slice p2 c.fs.length z2) ((hsc_ne (w := w3) (g := q) (i := 2) (k := sb + 1) (.slice p2 c.fs.length z2) (by have := HQN.out; omega)).trans HB4.out)
    refine bodyPost_ret (results_ct rfl _ rfl (run_loadVar_row _ (sb + 1) _ 24 _ _ _ hr Tryz.underlying24 rfl (by kernel_rfl))) rfl ?_
    refine ⟨.inl ⟨k, c, p2, z2, HZ.out, HCK.out, HQC.out, rfl, hz2, ?_⟩, (((HK3.out.setCell_new (by have := HSQ.out; simp [hsb] at this ⊢; omega) _).setCell_new (by simp [hsb]) _).setCell_new (by simp [hsb]) _).setCell_new (by simp [hsb]) _⟩
    have ho := owns_keep (w' := (((w3.setCell ⟨q, 2, none⟩ (.slice p2 c.fs.length z2)).setCell ⟨sb + 1, 0, none⟩ (.int .i64 c.id)).setCell ⟨sb + 1, 1, none⟩ (.string c.name)).setCell ⟨sb + 1, 2, none⟩ (.slice p2 c.fs.length z2)) HOWN.out (fun g hg => by
      have h1 := (HOWN.out.lt g hg).1
      have h2 := HLQ.out; have h3 := HSQ.out; have h4 := hqs
      rw [hsc_ne _ (by omega), hsc_ne _ (by omega), hsc_ne _ (by omega), hsc_ne _ (by omega)])
    exact owns_mono ho (by have := HSQ.out; have := HLQ.out; omega)

set_option maxRecDepth 20000 in
set_option maxHeartbeats 1000000 in
theorem sch_find (id : Int) (v : Int) (cs : List Cmp) (p : Option Addr) (cap : Nat) (w : World) (hl : Small cs) (hf : CP w w.heap.size p cs) :
    Calls Tryz.prog 51 #[.agg #[.int .i64 v, .slice p cs.length cap], .int .i64 id] w fun r w' => Found w.heap.size w' (fun c => decide (c.id = id)) cs r ∧ Keep (fun _ => False) w w' := by
  have hk0 : Keep (fun _ => False) w (((w.alloc (.cells #[.int .i64 v, .slice p cs.length cap] 33)).alloc (.cells #[.int .i64 id] 3)).alloc (.cells #[.int .i64 0, .string ⟨#[]⟩, .slice none 0 0] 24)) := (((Keep.refl (fun _ => False) w).alloc _).alloc _).alloc _
  have hb1 : (((w.alloc (.cells #[.int .i64 v, .slice p cs.length cap] 33)).alloc (.cells #[.int .i64 id] 3)).alloc (.cells #[.int .i64 0, .string ⟨#[]⟩, .slice none 0 0] 24)).heap[w.heap.size]? = some (.cells #[.int .i64 v, .slice p cs.length cap] 33 (0, 0)) := ((((Keep.refl (fun _ => False) _).alloc _).alloc _).get (heap_alloc_new w _) (fun h => h))
  have hb2 : (((w.alloc (.cells #[.int .i64 v, .slice p cs.length cap] 33)).alloc (.cells #[.int .i64 id] 3)).alloc (.cells #[.int .i64 0, .string ⟨#[]⟩, .slice none 0 0] 24)).heap[w.heap.size + 1]? = some (.cells #[.int .i64 id] 3 (0, 0)) := by
    have := (((Keep.refl (fun _ => False) ((w.alloc (.cells #[.int .i64 v, .slice p cs.length cap] 33)).alloc (.cells #[.int .i64 id] 3))).alloc (.cells #[.int .i64 0, .string ⟨#[]⟩, .slice none 0 0] 24)).get (heap_alloc_new (w.alloc (.cells #[.int .i64 v, .slice p cs.length cap] 33)) (.cells #[.int .i64 id] 3)) (fun h => h))
    simpa using this
  have hb3 : (((w.alloc (.cells #[.int .i64 v, .slice p cs.length cap] 33)).alloc (.cells #[.int .i64 id] 3)).alloc (.cells #[.int .i64 0, .string ⟨#[]⟩, .slice none 0 0] 24)).heap[w.heap.size + 2]? = some (.cells #[.int .i64 0, .string ⟨#[]⟩, .slice none 0 0] 24 (0, 0)) := by
    have := heap_alloc_new ((w.alloc (.cells #[.int .i64 v, .slice p cs.length cap] 33)).alloc (.cells #[.int .i64 id] 3)) (.cells #[.int .i64 0, .string ⟨#[]⟩, .slice none 0 0] 24)
    simpa using this
  have HF := hid (CP.mono (CP.low hf (Low.keep0 hk0)) hk0.size)
  have HK0 := hid hk0; have HB1 := hid hb1; have HB2 := hid hb2; have HB3 := hid hb3
  have HL := hid hl
  clear hl hf hb1 hb2 hb3 hk0
  go_enter Tryz.func51, Tryz.ntmps51
  go_upto_region 1 with fail
  generalize (((w.alloc (.cells #[.int .i64 v, .slice p cs.length cap] 33)).alloc (.cells #[.int .i64 id] 3)).alloc (.cells #[.int .i64 0, .string ⟨#[]⟩, .slice none 0 0] 24)) = w0 at *
  generalize hsb : w.heap.size = sb at *
  have d0 : w0.cell? ⟨sb, 0, none⟩ = some (.int .i64 v) := cell_of HB1.out (by rfl)
  have d1 : w0.cell? ⟨sb, 1, none⟩ = some (.slice p cs.length cap) := cell_of HB1.out (by rfl)
  have HC : Hid (w0.cell? ⟨sb + 1, 0, none⟩ = some (.int .i64 id)) := hid (cell_of HB2.out (by rfl))
  go_wp2_with fail
  refine (find_id id (sb + 1) v cs p cap _ HL.out HF.out HC.out).mono ?_
  rintro r w1 ⟨hr, hk1⟩
  have HK1 := hid (HK0.out.trans hk1)
  have HB4 := hid (hk1.get HB3.out (fun h => h))
  have HS := hid (lt_of_heap HB3.out)
  have HW1 : Hid (w0.heap.size ≤ w1.heap.size) := hid hk1.size
  clear hk1 d0 d1
  have c0 := cell_of HB4.out (i := 0) (by rfl)
  have c1 := cell_of HB4.out (i := 1) (by rfl)
  have c2 := cell_of HB4.out (i := 2) (by rfl)
  have f0 := free_of HB4.out 0
  have f1 := free_of HB4.out 1
  have f2 := free_of HB4.out 2
  rcases hr with ⟨k, c, p2, z, hz, hck, hqc, rfl, hle, hfp⟩ | ⟨hz, rfl⟩
  · have HZ := hid hz; have HCK := hid hck; have HFP := hid hfp; have HQC := hid hqc
    clear hz hck hfp hqc
    go_wp2
    (try simp only [Exit.inBlock, Exit.then])
    refine bodyPost_ret (results_ct rfl _ rfl (run_loadVar_row _ (sb + 2) _ 24 _ _ _ (cells3 (.int .i64 c.id) (.string c.name) (.slice p2 c.fs.length z) HB4.out) Tryz.underlying24 rfl (by kernel_rfl))) rfl ?_
    refine ⟨.inl ⟨k, c, p2, z, HZ.out, HCK.out, HQC.out, rfl, hle, ?_⟩, ((HK1.out.setCell_new (by show w.heap.size ≤ sb + 2; omega) _).setCell_new (by show w.heap.size ≤ sb + 2; omega) _).setCell_new (by show w.heap.size ≤ sb + 2; omega) _⟩
    have h2 := HS.out; have h3 := HK0.out.size
    exact owns_mono (owns_keep HFP.out (fun g hg => by
      have h1 := (HFP.out.lt g hg).1
      rw [hsc_ne _ (by omega), hsc_ne _ (by omega), hsc_ne _ (by omega)])) (by omega)
  · have HZ := hid hz
    clear hz
    go_wp2
    (try simp only [Exit.inBlock, Exit.then])
    refine bodyPost_ret (results_ct rfl _ rfl (run_loadVar_row _ (sb + 2) _ 24 _ _ _ (cells3 (.int .i64 0) (.string ⟨#[]⟩) (.slice none 0 0) HB4.out) Tryz.underlying24 rfl (by kernel_rfl))) rfl ?_
    exact ⟨.inr ⟨HZ.out, rfl⟩, ((HK1.out.setCell_new (by show w.heap.size ≤ sb + 2; omega) _).setCell_new (by show w.heap.size ≤ sb + 2; omega) _).setCell_new (by show w.heap.size ≤ sb + 2; omega) _⟩

end Go.Proofs.YtlhdofkgcbmnnaaGreat

namespace Go.Proofs.YtlhdofkgcbmnnaaGreat
open Go.RowKit Go.Proofs.Heap Go.Proofs.Sch

theorem results_tt {fn : Func} {p u : Tmp} (h : fn.results = #[.tmp p, .tmp u]) (tmps : Array Value) {P : Program} {w : World} : (results fn tmps).run P w = .ok (.tuple #[tmps.getD p undef, tmps.getD u undef]) w := by
  simp [results, h]

theorem fnamed_clo (f : Fld) (cb : Nat) (s : ByteArray) (w : World) (hc : w.cell? ⟨cb, 0, none⟩ = some (.string s)) :
    Calls Tryz.prog 141 #[.agg #[.string f.name, .int .i64 f.kind, .int .i64 f.count], .pointer (some ⟨cb, 0, none⟩)] w fun r w' => r = .returned (.bool (decide (f.name = s))) ∧ Keep (fun _ => False) w w' := by
  have hk := (Keep.refl (fun _ => False) w).alloc (.cells #[.string f.name, .int .i64 f.kind, .int .i64 f.count] 83)
  have HK := hid hk
  have hlt := World.block_lt_of_cell? w _ hc
  have hc2 := ((Low.keep0 hk).cell (o := 0) hlt).trans hc
  have hs := seq_dec f.name s
  clear hk
  go_enter Tryz.func141, Tryz.ntmps141
  go_wp2
  go_ret
  exact ⟨by first | rfl | (rw [← hs]; rfl), HK.out⟩

set_option maxRecDepth 20000 in
set_option maxHeartbeats 2000000 in
theorem idx_fields (s : ByteArray) (cb : Nat) (fs : List Fld) (p : Option Addr) (cap : Nat) (w : World) (hl : fs.length ≤ 4398046511104) (hf : FP w w.heap.size p fs) (hc : w.cell? ⟨cb, 0, none⟩ = some (.string s)) :
    Calls Tryz.prog 140 #[.slice p fs.length cap, .func (.func 141) #[] #[.pointer (some ⟨cb, 0, none⟩)]] w fun r w' => r = .returned (.int .i64 (idxI (fun f => decide (f.name = s)) fs)) ∧ Keep (fun _ => False) w w' := by
  have HF := hid hf
  have HQ : Hid (∀ (f : Fld) (wy : World), Keep (fun _ => False) w wy → Calls Tryz.prog 141 #[.agg #[.string f.name, .int .i64 f.kind, .int .i64 f.count], .pointer (some ⟨cb, 0, none⟩)] wy fun r w' => r = .returned (.bool ((fun f : Fld => decide (f.name = s)) f)) ∧ Keep (fun _ => False) wy w') :=
    hid (fun f wy hk => fnamed_clo f cb _ wy (((Low.keep0 hk).cell (o := 0) (World.block_lt_of_cell? w _ hc)).trans hc))
  obtain ⟨q, hqe⟩ : ∃ q : Fld → Bool, q = (fun f : Fld => decide (f.name = s)) := ⟨_, rfl⟩
  rw [← hqe] at HQ
  rw [← hqe]
  clear hf hc hqe
  go_enter Tryz.func140, Tryz.ntmps140
  go_wp2_with fail
  go_loopw [5, 8] (fun _ i wr => ∃ k : Nat, k ≤ fs.length ∧ i = iV k ∧ Keep (fun _ => False) w wr ∧ ∀ c ∈ fs.take k, q c = false) (fun _ i _ => fs.length + 1 - (intOf i).toNat)
  case atStart => exact ⟨0, by omega, rfl, Keep.refl _ _, by simp⟩
  case round =>
    obtain ⟨k, hk, rfl, hkeep, hall⟩ := hrel
    have HK := hid hkeep; have HA := hid hall
    clear hkeep hall
    by_cases hlt : k < fs.length
    · obtain ⟨c, hck⟩ : ∃ c, fs[k]? = some c := ⟨fs[k], by simp [hlt]⟩
      obtain ⟨b, off, rfl, hb, c0, c1, c2⟩ := FP.at (FP.low HF.out (Low.keep0 HK.out)) hck
      have hin : (0 : Int) ≤ (k : Int) ∧ (k : Int) < (fs.length : Int) := ⟨by omega, by omega⟩
      have HCK := hid hck
      clear hck
      go_wp2_with fail
      refine (HQ.out c _ HK.out).mono ?_
      rintro r w1 ⟨rfl, hk1⟩
      have HK1 := hid (HK.out.trans hk1)
      clear hk1
      cases hqc : q c
      · have HN : Hid (∀ d ∈ fs.take (k + 1), q d = false) := hid (fun d hd => by
          rw [take_next HCK.out] at hd
          rcases List.mem_append.1 hd with h | h
          · exact HA.out d h
          · rw [List.mem_singleton.1 h]; exact hqc)
        clear hqc
        go_wp2
        go_roundw
        case rel => exact ⟨k + 1, by omega, by go_num, HK1.out, HN.out⟩
        case measure => simp [intOf]; omega
      · have G3 := hid (idx_at HCK.out hqc HA.out)
        clear hqc
        go_wp2
        go_ret
        exact ⟨by rw [G3.out]; rfl, HK1.out⟩
    · obtain rfl : k = fs.length := by omega
      have G3 := hid (idx_none (q := q) (l := fs) (by have := HA.out; rwa [List.take_length] at this))
      go_wp2
      go_ret
      exact ⟨by rw [G3.out]; rfl, HK.out⟩

set_option maxRecDepth 20000 in
set_option maxHeartbeats 1000000 in
theorem field_named (c : Cmp) (s : ByteArray) (p : Option Addr) (cap : Nat) (w : World) (hl : c.fs.length ≤ 4398046511104) (hf : FP w w.heap.size p c.fs) :
    Calls Tryz.prog 100 #[.agg #[.int .i64 c.id, .string c.name, .slice p c.fs.length cap], .string s] w fun r w' =>
      ((idxI (fun f : Fld => decide (f.name = s)) c.fs = -1 ∧ r = .returned (.tuple #[.int .i64 0, .bool false])) ∨ (∃ k : Nat, idxI (fun f : Fld => decide (f.name = s)) c.fs = (k : Int) ∧ k < c.fs.length ∧ r = .returned (.tuple #[iV k, .bool true]))) ∧ Keep (fun _ => False) w w' := by
  have hk0 : Keep (fun _ => False) w ((w.alloc (.cells #[.int .i64 c.id, .string c.name, .slice p c.fs.length cap] 24)).alloc (.cells #[.string s] 9)) := ((Keep.refl (fun _ => False) w).alloc _).alloc _
  have hb1 : ((w.alloc (.cells #[.int .i64 c.id, .string c.name, .slice p c.fs.length cap] 24)).alloc (.cells #[.string s] 9)).heap[w.heap.size]? = some (.cells #[.int .i64 c.id, .string c.name, .slice p c.fs.length cap] 24 (0, 0)) := (((Keep.refl (fun _ => False) _).alloc _).get (heap_alloc_new w _) (fun h => h))
  have hb2 : ((w.alloc (.cells #[.int .i64 c.id, .string c.name, .slice p c.fs.length cap] 24)).alloc (.cells #[.string s] 9)).heap[w.heap.size + 1]? = some (.cells #[.string s] 9 (0, 0)) := by
    have := heap_alloc_new (w.alloc (.cells #[.int .i64 c.id, .string c.name, .slice p c.fs.length cap] 24)) (.cells #[.string s] 9)
    simpa using this
  have HF := hid (FP.mono (FP.low hf (Low.keep0 hk0)) hk0.size)
  have HK0 := hid hk0; have HB1 := hid hb1; have HB2 := hid hb2
  clear hf hb1 hb2 hk0
  go_enter Tryz.func100, Tryz.ntmps100
  go_upto_region 1 with fail
  generalize (w.alloc (.cells #[.int .i64 c.id, .string c.name, .slice p c.fs.length cap] 24)).alloc (.cells #[.string s] 9) = w0 at *
  generalize w.heap.size = sb at *
  have d1 : w0.cell? ⟨sb, 2, none⟩ = some (.slice p c.fs.length cap) := cell_of HB1.out (by rfl)
  have HC : Hid (w0.cell? ⟨sb + 1, 0, none⟩ = some (.string s)) := hid (cell_of HB2.out (by rfl))
  go_wp2_with fail
  refine (idx_fields s (sb + 1) c.fs p cap _ hl HF.out HC.out).mono ?_
  rintro r w1 ⟨rfl, hk1⟩
  have HK1 := hid (HK0.out.trans hk1)
  have HCS := hid (idx_cases (fun f : Fld => decide (f.name = s)) c.fs)
  clear hk1 d1
  generalize hz : idxI (fun f : Fld => decide (f.name = s)) c.fs = z at *
  have HZ := hid hz
  clear hz
  rcases HCS.out with h | ⟨k, x, h, _, _, hkl⟩
  · subst h
    go_wp2
    (try simp only [Exit.inBlock, Exit.then])
    refine bodyPost_ret (results_tt rfl _) rfl ?_
    exact ⟨.inl ⟨HZ.out, rfl⟩, HK1.out⟩
  · subst h
    have g1 : decide ((0 : Int) ≤ (k : Int)) = true := decide_eq_true (by omega)
    have g2 : decide ((0 : Int) < (k : Int)) = decide (0 < k) := by by_cases h : 0 < k <;> simp [h]
    go_wp2
    (try simp only [Exit.inBlock, Exit.then])
    refine bodyPost_ret (results_tt rfl _) rfl ?_
    exact ⟨.inr ⟨k, HZ.out, hkl, by first | rfl | simp⟩, HK1.out⟩

set_option maxRecDepth 20000 in
set_option maxHeartbeats 1000000 in
theorem sch_ids (v : Int) (cs : List Cmp) (p : Option Addr) (cap : Nat) (w : World) (hl1 : cs.length ≤ 2932031007402) (hf : CP w w.heap.size p cs) :
    Calls Tryz.prog 136 #[.agg #[.int .i64 v, .slice p cs.length cap]] w fun r w' => ∃ p' c', r = .returned (.slice p' cs.length c') ∧ w'.ownsRow w.heap.size 3 1 (.slice p' cs.length c') cs.length (cs.map (fun c => .int .i64 c.id)) ∧ Keep (fun _ => False) w w' := by
  obtain ⟨i0, hi0, hz0, hz1, hz2⟩ := info_parts' info_int
  have hb0 := heap_alloc_new w (.cells #[.int .i64 v, .slice p cs.length cap] 33)
  have hk0 := (Keep.refl (fun _ => False) w).alloc (.cells #[.int .i64 v, .slice p cs.length cap] 33)
  have HF := hid (CP.mono (CP.low hf (Low.keep0 hk0)) hk0.size)
  have HK0 := hid hk0; have HB0 := hid hb0
  clear hf hb0 hk0
  go_enter Tryz.func136, Tryz.ntmps136
  go_upto_region 1 with fail
  generalize w.alloc (.cells #[.int .i64 v, .slice p cs.length cap] 33) = w0 at *
  have HSB : Hid (w.heap.size < w0.heap.size) := hid (lt_of_heap HB0.out)
  generalize hsb : w.heap.size = sb at *
  have d1 : w0.cell? ⟨sb, 1, none⟩ = some (.slice p cs.length cap) := cell_of HB0.out (by rfl)
  go_wp2_with fail
  clear d1
  go_loopw [3, 5, 9] (fun av _ i wr => ∃ k : Nat, k ≤ cs.length ∧ i = iV k ∧ Keep (fun _ => False) w0 wr ∧ wr.ownsRow w0.heap.size 3 1 av k ((cs.take k).map (fun c => .int .i64 c.id))) (fun _ _ i _ => cs.length + 1 - (intOf i).toNat)
  case atStart => exact ⟨0, by omega, rfl, Keep.refl _ _, World.ownsRow_nil _ _ _ _⟩
  case round =>
    obtain ⟨k, hk, rfl, hkeep, hown⟩ := hrel
    have HK := hid hkeep; have HO := hid hown
    clear hkeep hown
    by_cases hlt : k < cs.length
    · obtain ⟨c, hck⟩ : ∃ c, cs[k]? = some c := ⟨cs[k], by simp [hlt]⟩
      obtain ⟨b, off, fq, fk, rfl, hb, c0, c1, c2, _, _⟩ := CP.at (CP.low HF.out (Low.keep0 HK.out)) hck
      have hin : (0 : Int) ≤ (k : Int) ∧ (k : Int) < (cs.length : Int) := ⟨by omega, by omega⟩
      have hk2 := (Keep.refl (fun _ => False) wr).alloc (.cells #[.int .i64 c.id, .string c.name, .slice fq c.fs.length fk] 24)
      have HK2 := hid (HK.out.trans hk2)
      have HO2 := hid (owns_keep HO.out (fun q hq => hk2.block q (HO.out.lt q hq).2 (fun h => h)))
      have hcb := heap_alloc_new wr (.cells #[.int .i64 c.id, .string c.name, .slice fq c.fs.length fk] 24)
      have HTK : Hid ((cs.take (k + 1)).map (fun c => Value.int .i64 c.id) = (cs.take k).map (fun c => Value.int .i64 c.id) ++ [.int .i64 c.id]) := hid (by rw [take_next hck, List.map_append]; rfl)
      have hs := HK2.out.size
      clear hck hk2
      generalize (cs.take k).map (fun c => Value.int .i64 c.id) = xs at *
      go_upto_region 5 with fail
      generalize wr.alloc (.cells #[.int .i64 c.id, .string c.name, .slice fq c.fs.length fk] 24) = wa at *
      have e0 := cell_of hcb (i := 0) (by rfl)
      clear hcb
      go_wp2_with (at_builtin; go_loud (refine wpList_append_rd rfl (.tmp 13) (.tmp 16) _ rfl w0.heap.size _ i0 _ 1 8 Tryz.underlying102 hi0 hz0 hz1 hz2 rfl (by decide) _ k _ (by rfl) (HO2.out.alloc _) _ 1 [.int .i64 c.id] (by rfl) (rd_block (heap_alloc_new wa _) (by simp) (by simp [Value.oneCell'])) (by unfold maxLen; omega) (by omega) (by simp; omega) ?_; intro v' w5 hown5 hgrow5 hat5 hn5; rw [← HTK.out] at hown5; have HO5 := hid hown5; have HK5 := hid ((HK2.out.alloc _).grown hgrow5 (fun k hk => .inl (HO2.out.lt k hk).1)); clear hown5 hgrow5 hat5 hn5))
      go_roundw
      case rel => exact ⟨k + 1, by omega, by go_num, HK5.out, HO5.out⟩
      case measure => simp [intOf]; omega
    · obtain rfl : k = cs.length := by omega
      rw [List.take_length] at HO
      obtain ⟨ap, ac, rfl⟩ := owns_val HO.out
      go_wp2
      go_ret
      exact ⟨ap, ac, rfl, owns_mono HO.out (by have := HSB.out; omega), HK0.out.trans HK.out⟩

end Go.Proofs.YtlhdofkgcbmnnaaGreat
