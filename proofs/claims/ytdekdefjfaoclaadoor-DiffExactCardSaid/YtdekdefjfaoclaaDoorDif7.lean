/- What is proved: what Lines of the diff answers; Itoa of small numbers. -/
import Derived.Test.YtdekdefjfaoclaaDoorDif6
import Derived.Test.YtdekdefjfaoclaaDoorDif3
import Derived.Test.YtdekdefjfaoclaaDoorItoa
namespace Go.Proofs.YtdekdefjfaoclaaDoor
open Go.RowKit Go.Proofs.Heap Go.Proofs.Sch

theorem it_small (n : Int) (h0 : 0 ≤ n) (h1 : n < 100) (w : World) : ItOk n w := by
  obtain ⟨i, rfl⟩ := Int.eq_ofNat_of_zero_le h0
  have he : itB (i : Int) = ⟨(Lib.decDigits i).toArray⟩ := by
    unfold itB Lib.itoa
    rw [if_neg (by omega), Int.toNat_natCast]
  refine ⟨?_, fun wy _ => ?_⟩
  · rw [he]
    have : (Lib.decDigits i).length ≤ 21 := by
      have h := Lib.itoa_length_le (i : Int) (by omega) (by omega)
      unfold Lib.itoa at h
      rwa [if_neg (by omega), Int.toNat_natCast] at h
    simpa [ByteArray.size] using this
  · refine (Tryd.strconv_Itoa_small i (by omega) wy).mono ?_
    rintro e w' ⟨rfl, rfl⟩
    exact ⟨by rw [he], Keep.refl _ _⟩

def linesL (l : List Chg) : List ByteArray := l.map lineB
theorem linesL_next {l : List Chg} {k : Nat} {x : Chg} (h : l[k]? = some x) : linesL (l.take (k + 1)) = linesL (l.take k) ++ [lineB x] := by
  unfold linesL
  rw [take_next h, List.map_append]; rfl
theorem linesL_len (l : List Chg) {k : Nat} (hk : k ≤ l.length) : (linesL (l.take k)).length = k := by
  unfold linesL
  rw [List.length_map, List.length_take]; omega

set_option maxRecDepth 20000 in
set_option maxHeartbeats 8000000 in
theorem dif_lines (va : Int) (ca : List Cmp) (p : Option Addr) (z : Nat) (vb : Int) (cb : List Cmp) (p2 : Option Addr) (z2 : Nat) (w : World) (ha : Mid ca) (hb : Mid cb) (hx : ∀ x ∈ ofE va ca vb cb, x.field.size ≤ 1000000 ∧ ItOk x.comp w) (hca : CP w w.heap.size p ca) (hcb : CP w w.heap.size p2 cb) :
    Calls Tryd.prog 11 #[.agg #[.int .i64 va, .slice p ca.length z], .agg #[.int .i64 vb, .slice p2 cb.length z2]] w fun r w' => ∃ v, r = .returned (.tuple #[v, iV (diffE va ca vb cb)]) ∧
      w'.ownsRow w.heap.size 9 1 v (ofE va ca vb cb).length ((linesL (ofE va ca vb cb)).map Value.string) ∧ Keep (fun _ => False) w w' := by
  obtain ⟨i0, hi0, hz0, hz1, hz2⟩ := info_parts' info_str
  obtain ⟨w3, hw3, hb1, hb2, hs3, hk3⟩ := box2 w #[.int .i64 va, .slice p ca.length z] #[.int .i64 vb, .slice p2 cb.length z2] 24 24
  have HK := hid hk3
  have HD : Hid (CP w3 w3.heap.size p ca ∧ CP w3 w3.heap.size p2 cb) := hid ⟨CP.mono (CP.low hca (Low.keep0 hk3)) hk3.size, CP.mono (CP.low hcb (Low.keep0 hk3)) hk3.size⟩
  have HA := hid ha; have HB := hid hb
  have HS3 := hid hk3.size
  have HX : Hid (∀ x ∈ ofE va ca vb cb, x.field.size ≤ 1000000 ∧ ItOk x.comp w3) := hid (fun x hx' => ⟨(hx x hx').1, (hx x hx').2.keep hk3⟩)
  have HL : Hid ((ofE va ca vb cb).length ≤ 24 * 262144) := hid (by
    unfold ofE
    split
    · exact ofN_le ha hb 24
    · simp)
  clear hca hcb hk3 hs3 ha hb hx
  go_enter Tryd.func11, Tryd.ntmps11
  go_upto_region 1 with fail
  rw [← hw3]
  clear hw3
  generalize hsb : w.heap.size = sb at *
  have s0 : w3.cell? ⟨sb, 0, none⟩ = some (.int .i64 va) := cell_of hb1 (by rfl)
  have s1 : w3.cell? ⟨sb, 1, none⟩ = some (.slice p ca.length z) := cell_of hb1 (by rfl)
  have s2 : w3.cell? ⟨sb + 1, 0, none⟩ = some (.int .i64 vb) := cell_of hb2 (by rfl)
  have s3 : w3.cell? ⟨sb + 1, 1, none⟩ = some (.slice p2 cb.length z2) := cell_of hb2 (by rfl)
  clear hb1 hb2
  go_wp2_with fail
  refine (dif_of va ca p z vb cb p2 z2 _ HA.out HB.out HD.out.1 HD.out.2).mono ?_
  rintro r w4 ⟨v4, rfl, ho4, hk4⟩
  obtain ⟨cp, cc, rfl⟩ := owns_val ho4
  have HK4 := hid hk4; have HO4 := hid ho4
  clear hk4 ho4 s0 s1 s2 s3
  obtain ⟨L, hL⟩ : ∃ L, ofE va ca vb cb = L := ⟨_, rfl⟩
  obtain ⟨E, hE⟩ : ∃ E, diffE va ca vb cb = E := ⟨_, rfl⟩
  rw [hL] at HX HL HO4
  have HLE := hid hL; have HEE := hid hE
  rw [hL, hE]
  clear hL hE
  go_wp2_with fail
  have hl := HL.out
  go_loopw [8, 10, 19] (fun v _ i wr => ∃ k : Nat, k ≤ L.length ∧ i = iV k ∧ wr.ownsRow w4.heap.size 9 1 v k ((linesL (L.take k)).map Value.string) ∧ Keep (fun _ => False) w4 wr) (fun _ _ i _ => L.length + 1 - (intOf i).toNat)
  case atStart => exact ⟨0, Nat.zero_le _, rfl, World.ownsRow_nil _ _ _ _, Keep.refl _ _⟩
  case round =>
    obtain ⟨k, hk, rfl, how, hkr⟩ := hrel
    obtain ⟨vp, vc, rfl⟩ := owns_val how
    have HO := hid how; have HKR := hid hkr
    clear how hkr
    by_cases hlt : k < L.length
    · obtain ⟨x, hxk⟩ : ∃ x, L[k]? = some x := ⟨L[k], by simp [hlt]⟩
      have HNX := hid (linesL_next hxk)
      have HXX := hid (HX.out x (List.mem_of_getElem? hxk))
      obtain ⟨g, rfl⟩ := owns_some HO4.out (by omega)
      have hio := owns_keep HO4.out (fun q hq => HKR.out.block q (HO4.out.lt q hq).2 id)
      have c0 : wr.cell? ⟨g, k * 3, none⟩ = some (.int .i64 x.kind) := owns3_cell (r := 0) ccl3_len hio hxk rfl
      have c1 : wr.cell? ⟨g, k * 3 + 1, none⟩ = some (.int .i64 x.comp) := owns3_cell (r := 1) ccl3_len hio hxk rfl
      have c2 : wr.cell? ⟨g, k * 3 + 2, none⟩ = some (.string x.field) := owns3_cell (r := 2) ccl3_len hio hxk rfl
      have hin : (0 : Int) ≤ (k : Int) ∧ (k : Int) < (L.length : Int) := ⟨by omega, by omega⟩
      clear hio hxk
      obtain ⟨kd, co, fl⟩ := x
      simp only at c0 c1 c2
      obtain ⟨w5, hw5, hc5, hs5, hk5⟩ := box1 wr #[.int .i64 kd, .int .i64 co, .string fl] 40
      have HK5 := hid (HKR.out.trans hk5)
      have HO5 := hid (owns_keep HO.out (fun q hq => hk5.block q (HO.out.lt q hq).2 id))
      have HC5 := hid hc5
      clear hk5 hs5 hc5
      go_upto_region 6 with fail
      rw [← hw5]
      clear hw5 c0 c1 c2
      generalize wr.heap.size = fb at *
      have c0 : w5.cell? ⟨fb, 0, none⟩ = some (.int .i64 kd) := cell_of HC5.out (by rfl)
      have c1 : w5.cell? ⟨fb, 1, none⟩ = some (.int .i64 co) := cell_of HC5.out (by rfl)
      have c2 : w5.cell? ⟨fb, 2, none⟩ = some (.string fl) := cell_of HC5.out (by rfl)
      go_wp2_with fail
      refine (dif_line ⟨kd, co, fl⟩ _ HXX.out.1 (HXX.out.2.keep (HK4.out.trans HK5.out))).mono ?_
      rintro r w6 ⟨rfl, hk6⟩
      have HK6 := hid (HK5.out.trans hk6)
      have HO6 := hid (owns_keep HO5.out (fun q hq => hk6.block q (HO5.out.lt q hq).2 id))
      have HSZ := hid HK6.out.size
      clear hk6 c0 c1 c2
      generalize lineB ⟨kd, co, fl⟩ = tx at *
      generalize linesL (L.take k) = us at *
      go_wp2_with (at_builtin; go_loud (refine wpList_append_rd rfl (.tmp 23) (.tmp 26) _ rfl w4.heap.size _ i0 _ 1 16 Tryd.underlying32 hi0 hz0 hz1 hz2 rfl (by decide) _ k _ (by rfl) (HO6.out.alloc _) _ 1 _ (by rfl) (rd_block (heap_alloc_new w6 _) (by simp) (by simp [Value.oneCell'])) (by unfold maxLen; omega) (by omega) (by have := HSZ.out; simp; omega) ?_); go_loud (intro v' w7 hown6 hgrow6 hat6 hn6; obtain ⟨vq, vd, rfl⟩ := owns_val hown6; have HO7 := hid hown6; have HK7 := hid ((HK6.out.alloc _).grown hgrow6 (fun k hk => .inl (HO6.out.lt k hk).1)); clear hown6 hgrow6 hat6 hn6))
      go_wp2
      go_roundw
      case rel => exact ⟨k + 1, by omega, by go_num, by rw [HNX.out]; have h := HO7.out; simpa using h, HK7.out⟩
      case measure => simp [intOf]; omega
    · obtain rfl : k = L.length := by omega
      have g0 : decide ((L.length : Int) < (L.length : Int)) = false := decide_eq_false (by omega)
      rw [List.take_length] at *
      go_wp2
      (try simp only [Exit.inBlock, Exit.then])
      refine bodyPost_ret (results_tt rfl _) rfl ?_
      rw [HLE.out, HEE.out]
      exact ⟨_, rfl, owns_mono HO.out (by have := HS3.out; have := HK4.out.size; omega), HK.out.trans (HK4.out.trans HKR.out)⟩
end Go.Proofs.YtdekdefjfaoclaaDoor
