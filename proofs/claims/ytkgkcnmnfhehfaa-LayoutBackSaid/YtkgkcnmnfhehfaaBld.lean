/- What is proved: strings.Builder's WriteString (of this program's own form, in which the copy check stops where the library panics). -/
import Derived.Test.YtkgkcnmnfhehfaaBuilder
import Derived.Test.YtkgkcnmnfhehfaaOct
import Derived.Test.YtkgkcnmnfhehfaaRes
namespace Go.Proofs.Ytkgkcnmnfhehfaa
open Go.RowKit Go.Proofs.Heap Go.Proofs.Sch Go.Lib

/-- A builder in block b, its buffer from block B on. -/
abbrev BuiltA (B b : Nat) (bs : List Value) (w : World) : Prop := Lib.BuilderAtF 71 5 B b (.pointer (some ⟨b, 0, none⟩)) bs w
abbrev Built (B b : Nat) (bs : List Value) (w : World) : Prop := Lib.IsBuilderF 71 5 B b bs w

theorem results_tt2 {fn : Func} {p u : Tmp} (h : fn.results = #[.tmp p, .tmp u]) (tmps : Array Value) {P : Program} {w : World} : (results fn tmps).run P w = .ok (.tuple #[tmps.getD p undef, tmps.getD u undef]) w := by
  unfold results
  rw [h]
  simp
theorem size_bld : (Try.prog.info? 71).map (·.size) = some 2 := by kernel_rfl
theorem lies_bld : liesAt Try.prog Try.prog.depth 71 (2 / Try.prog.cellsOf 71) 0 71 1 = true := by kernel_rfl

set_option maxRecDepth 20000 in
set_option maxHeartbeats 8000000 in
theorem bld_check (B b : Nat) (bs : List Value) (w : World) (h : Built B b bs w) : Calls Try.prog 51 #[.pointer (some ⟨b, 0, none⟩)] w fun r w' => r = .returned (.tuple #[]) ∧ BuiltA B b bs w' ∧ Below B w w' ∧ Lib.OthersKept 5 (some b) w w' := by
  obtain ⟨j, hj, hjs⟩ := Option.map_eq_some_iff.1 size_bld
  have HJ := hid hj
  have HJS := hid hjs
  clear hj hjs
  rcases h with h | h
  · have c0 := h.cell0
    have fz := h.frozen0
    have HSH := hid h.shape
    have HE : Hid (BuiltA B b bs (w.setCell ⟨b, 0, none⟩ (.pointer (some ⟨b, 0, none⟩))) ∧ Below B w (w.setCell ⟨b, 0, none⟩ (.pointer (some ⟨b, 0, none⟩))) ∧ Lib.OthersKept 5 (some b) w (w.setCell ⟨b, 0, none⟩ (.pointer (some ⟨b, 0, none⟩)))) :=
      hid ⟨h.used _, (Below.refl B w).setCell (p := ⟨b, 0, none⟩) h.1 _, (Lib.OthersKept.refl _ _ w).setCell ⟨b, 0, none⟩ rfl _⟩
    clear h
    go_enter Try.func51, Try.ntmps51
    go_wp2
    rw [Lib.run_to_unsafe w ⟨b, 0, none⟩ Try.underlying68 Try.underlying120 HJ.out (by rw [HJS.out]; decide) HSH.out (Nat.zero_lt_succ 1)]
    simp only [Result.andThen]
    rw [Oper.upon_value]
    go_wp2
    rw [run_callFunc_extern Try.func67 (by kernel_rfl) (by kernel_rfl) (by kernel_rfl) (e := Extern.AbiNoEscape.same) (by kernel_rfl)]
    rw [Lib.run_noEscape]
    simp only [Result.andThen]
    rw [Oper.upon_value]
    go_wp2
    rw [Lib.run_from_unsafe w ⟨b, 0, none⟩ Try.underlying120 Try.underlying68 HJ.out HSH.out lies_bld]
    simp only [Result.andThen]
    rw [Oper.upon_value]
    go_wp2
    go_end0
    exact ⟨rfl, HE.out⟩
  · have c0 := h.cell0
    have H := hid h
    clear h
    go_enter Try.func51, Try.ntmps51
    go_wp2
    rw [Lib.run_neq_ptr_same w _ Try.underlying68 HJ.out]
    go_wp2
    go_end0
    exact ⟨rfl, H.out, Below.refl B _, Lib.OthersKept.refl _ _ _⟩
theorem ne_bld : 71 ≠ 5 := by decide
set_option maxRecDepth 20000 in
set_option maxHeartbeats 8000000 in
theorem bld_write (B b : Nat) (bs : List Value) (s : ByteArray) (w : World) (h : Built B b bs w) (hlen : bs.length + s.size ≤ 140737488355328) (hBw : B ≤ w.heap.size) : Calls Try.prog 29 #[.pointer (some ⟨b, 0, none⟩), .string s] w fun r w' => r = .returned (.tuple #[.int .i64 s.size, .nilIface]) ∧ BuiltA B b (bs ++ Lib.strCells s) w' ∧ Below B w w' ∧ Lib.OthersKept 5 (some b) w w' := by
  have H := hid h
  have HL := hid hlen
  have HB := hid hBw
  clear h hlen hBw
  go_enter Try.func29, Try.ntmps29
  go_wp2_with fail
  refine (bld_check B b bs _ H.out).mono ?_
  rintro r w1 ⟨rfl, h1, hb1, hk1⟩
  obtain ⟨hB, v, hbk, hown, hne⟩ := h1
  have c0 : w1.cell? ⟨b, 0, none⟩ = some (.pointer (some ⟨b, 0, none⟩)) := cell_of hbk (by rfl)
  have c1 : w1.cell? ⟨b, 1, none⟩ = some v := cell_of hbk (by rfl)
  have HB1 := hid hb1; have HK1 := hid hk1; have HBK := hid hbk; have HOWN := hid hown; have HNE := hid hne; have HBB := hid hB
  clear hb1 hk1 hbk hown hne hB
  obtain ⟨i0, hi, hz0, hz1, hz2⟩ := info_parts' info_u8
  go_wp2_with (at_builtin; refine Lib.wpList_append_own_stringF _ rfl _ _ 69 9 rfl B 5 i0 Try.underlying69 Try.underlying9 hi hz0 hz1 hz2 _ _ _ rfl HOWN.out s rfl ?c3 ?c4 ?c5 ?_)
  case c3 => have := HL.out; unfold maxLen; omega
  case c4 => exact HL.out
  case c5 => have := HB1.out.size; have := HB.out; omega
  intro v' w2 hown' hgrow _
  have hlt : b < w1.heap.size := (Array.getElem?_eq_some_iff.1 HBK.out).1
  have hb2 : w2.heap[b]? = some (.cells #[.pointer (some ⟨b, 0, none⟩), v] 71 (0, 0)) := by
    rw [hgrow.block b hlt (fun e => HNE.out e.symm)]
    exact HBK.out
  have d1 : w2.cell? ⟨b, 1, none⟩ = some v := cell_of hb2 (by rfl)
  have f1 : w2.frozen? ⟨b, 1, none⟩ = false := free_of hb2 1
  have HE : Hid (BuiltA B b (bs ++ Lib.strCells s) (w2.setCell ⟨b, 1, none⟩ v') ∧ Below B w (w2.setCell ⟨b, 1, none⟩ v') ∧ Lib.OthersKept 5 (some b) w (w2.setCell ⟨b, 1, none⟩ v')) :=
    hid ⟨Lib.BuilderAtF.put HBB.out hb2 (bs' := bs ++ Lib.strCells s) (by simpa [Lib.strCells_length] using hown') ne_bld,
      (HB1.out.grown hgrow (by have := HB1.out.size; have := HB.out; omega) (fun k hk => (HOWN.out.lt k hk).1)).setCell (p := ⟨b, 1, none⟩) HBB.out _,
      (HK1.out.grown hgrow (Lib.ownsRowF_kind HOWN.out)).setCell ⟨b, 1, none⟩ rfl _⟩
  obtain ⟨ao, n', cap, rfl⟩ : ∃ ao n' cap, v' = .slice ao n' cap := by
    rcases hown'.2 with ⟨hv, _⟩ | ⟨g, cap, cur, fz, hv, _⟩
    · exact ⟨_, _, _, hv⟩
    · exact ⟨_, _, _, hv⟩
  clear hown' hgrow hlt hb2 c0 c1
  go_wp2
  (try simp only [Exit.inBlock, Exit.then])
  refine bodyPost_ret (results_tt2 rfl _) rfl ?_
  exact ⟨rfl, HE.out⟩
/-- A builder stays over blocks that are new. -/
theorem Built.keep0 {B b : Nat} {p : Value} {bs : List Value} {w w' : World} (h : Lib.BuilderAtF 71 5 B b p bs w) (hk : Keep (fun _ => False) w w') : Lib.BuilderAtF 71 5 B b p bs w' := by
  obtain ⟨hB, v, hb, hown, hne⟩ := h
  refine ⟨hB, v, hk.get hb id, ⟨hown.1, ?_⟩, hne⟩
  rcases hown.2 with hn | ⟨g, cap, cur, fz, hv, hbg, hg, rest⟩
  · exact .inl hn
  · exact .inr ⟨g, cap, cur, fz, hv, hbg, hk.get hg id, rest⟩
end Go.Proofs.Ytkgkcnmnfhehfaa
