/- What is proved: the elements of a row of fields in plain terms, and how the reference's two rows grow in memory. -/
import Derived.Test.YtkgkcnmnfhehfaaMBox
import Derived.Test.YtkgkcnmnfhehfaaMWide2
import Derived.Shelf.Spec.BitsCarry
namespace Go.Proofs.Ytkgkcnmnfhehfaa
open Go.RowKit Go.Proofs.Heap Go.Proofs.Sch

/-- An element's cells. -/
def ecl (e : Int × Nat) : List Value := [.int .i64 e.1, iV e.2]
/-- The elements of a field that begins at a. -/
def eAdd (k : Int) (a sz n : Nat) : List (Int × Nat) := (List.range n).map (fun j => (k, a + sz * j))
def eStep (st : Nat × List (Int × Nat)) (f : Fld) : Nat × List (Int × Nat) := (upN st.1 (szN f.kind) + szN f.kind * f.count.toNat, st.2 ++ eAdd f.kind (upN st.1 (szN f.kind)) (szN f.kind) f.count.toNat)
/-- All elements of fields. -/
def eRun (fs : List Fld) : List (Int × Nat) := (fs.foldl eStep (0, [])).2

theorem eAdd_zero (k : Int) (a sz : Nat) : eAdd k a sz 0 = [] := rfl
theorem eAdd_next (k : Int) (a sz n : Nat) : eAdd k a sz (n + 1) = eAdd k a sz n ++ [(k, a + sz * n)] := by
  unfold eAdd; rw [List.range_succ, List.map_append]; rfl
theorem eAdd_len (k : Int) (a sz n : Nat) : (eAdd k a sz n).length = n := by simp [eAdd]
theorem eFold_at : ∀ (fs : List Fld) (a g : Nat) (es : List (Int × Nat)) (ss : List Nat), (fs.foldl eStep (a, es)).1 = (fs.foldl pStep (a, g, ss)).1
  | [], _, _, _, _ => rfl
  | f :: r, a, g, es, ss => by
    rw [List.foldl_cons, List.foldl_cons]
    exact eFold_at r _ _ _ _
theorem eRun_next {fs : List Fld} {k : Nat} {f : Fld} (h : fs[k]? = some f) : eRun (fs.take (k + 1)) = eRun (fs.take k) ++ eAdd f.kind (upN (pRun (fs.take k)).1 (szN f.kind)) (szN f.kind) f.count.toNat := by
  unfold eRun pRun
  rw [take_next h, List.foldl_append, List.foldl_cons, List.foldl_nil]
  unfold eStep
  rw [← eFold_at (fs.take k) 0 1 [] []]
  rfl
theorem eRun_len : ∀ (fs : List Fld), (eRun fs).length = sumN fs := by
  have key : ∀ (fs : List Fld) (st : Nat × List (Int × Nat)), (fs.foldl eStep st).2.length = st.2.length + sumN fs := by
    intro fs
    induction fs with
    | nil => intro st; simp [sumN]
    | cons f r ih =>
      intro st
      rw [List.foldl_cons, ih]
      simp only [eStep, List.length_append, eAdd_len, sumN]
      omega
  intro fs
  have := key fs (0, [])
  simpa [eRun] using this

/-- The multiple that is met first. -/
theorem upN_meet {a s x : Nat} (hs : 1 ≤ s) (h1 : a ≤ x) (h2 : x ≤ upN a s) (h3 : x % s = 0) : x = upN a s := by
  have hd := Nat.div_add_mod (a + s - 1) s
  have hm := Nat.mod_lt (a + s - 1) (show 0 < s by omega)
  have hx := Nat.div_add_mod x s
  have e : upN a s = s * ((a + s - 1) / s) := by unfold upN; rw [Nat.mul_comm]
  rw [e] at h2 ⊢
  rw [h3] at hx
  generalize (a + s - 1) / s = q at *
  generalize x / s = t at *
  have h4 : s * t < s * q + s → t < q + 1 := fun h => Nat.lt_of_mul_lt_mul_left (a := s) (by rw [Nat.mul_add]; omega)
  have h5 : s * q < s * t + s → q < t + 1 := fun h => Nat.lt_of_mul_lt_mul_left (a := s) (by rw [Nat.mul_add]; omega)
  have : t = q := by
    have h6 := h4 (by omega)
    have h7 := h5 (by omega)
    omega
  subst this
  omega
theorem upN_dvd (a s : Nat) : upN a s % s = 0 := by unfold upN; exact Nat.mul_mod_left ..
theorem upN_ge {a s : Nat} (hs : 1 ≤ s) : a ≤ upN a s := by
  have hd := Nat.div_add_mod (a + s - 1) s
  have hm := Nat.mod_lt (a + s - 1) (show 0 < s by omega)
  unfold upN
  rw [Nat.mul_comm]
  omega

/-- The reference's two rows under way: the elements, where fields begin. -/
structure LY (w : World) (v6 v7 : Value) (es : List (Int × Nat)) (ss : List Nat) (y : World) : Prop where
  keep : Keep (fun _ => False) w y
  o6 : y.ownsRow w.heap.size 66 2 v6 es.length (es.flatMap ecl)
  o7 : y.ownsRow w.heap.size 3 1 v7 ss.length (ss.map iV)
  dis : ∀ g, v6.ownBlock = some g → v7.ownBlock = some g → False
/-- A field's box beside them. -/
structure LB (v6 v7 : Value) (bx : Nat) (f : Fld) (y : World) : Prop where
  box : y.heap[bx]? = some (.cells #[.string f.name, .int .i64 f.kind, .int .i64 f.count] 41 (0, 0))
  n6 : v6.ownBlock ≠ some bx
  n7 : v7.ownBlock ≠ some bx

section
variable {w y y' : World} {v6 v7 v' : Value} {es : List (Int × Nat)} {ss : List Nat} {bx : Nat} {f : Fld}
theorem LY.keep0 (h : LY w v6 v7 es ss y) (hk : Keep (fun _ => False) y y') : LY w v6 v7 es ss y' :=
  ⟨h.keep.trans hk, owns_keep h.o6 (fun q hq => hk.block q (h.o6.lt q hq).2 id), owns_keep h.o7 (fun q hq => hk.block q (h.o7.lt q hq).2 id), h.dis⟩
theorem LB.keep0 (h : LB v6 v7 bx f y) (hk : Keep (fun _ => False) y y') : LB v6 v7 bx f y' := ⟨hk.get h.box id, h.n6, h.n7⟩
theorem LY.newBox (h : LY w v6 v7 es ss y) (f : Fld) : LB v6 v7 y.heap.size f (y.alloc (.cells #[.string f.name, .int .i64 f.kind, .int .i64 f.count] 41)) :=
  ⟨heap_alloc_new y _, fun e => by have := (h.o6.lt _ e).2; omega, fun e => by have := (h.o7.lt _ e).2; omega⟩
theorem LY.app6 (h : LY w v6 v7 es ss y) (hb : LB v6 v7 bx f y) {e : Int × Nat} (hown : y'.ownsRow w.heap.size 66 2 v' (es.length + 1) (es.flatMap ecl ++ ecl e)) (hg : y.grownBy y' v6.ownBlock) (ha : v'.ownBlock = v6.ownBlock ∨ v'.ownBlock = some y.heap.size) :
    LY w v' v7 (es ++ [e]) ss y' ∧ LB v' v7 bx f y' := by
  have hk : Keep (fun q => v6.ownBlock = some q) y y' := (Keep.refl _ y).grown hg (fun k hk => .inr hk)
  refine ⟨⟨h.keep.trans' hk (fun i hi e => by have := (h.o6.lt _ e).1; omega), by simpa using hown, owns_keep h.o7 (fun q hq => hk.block q (h.o7.lt q hq).2 (fun e => h.dis q e hq)), fun g h1 h2 => ?_⟩, hk.get hb.box hb.n6, fun e => ?_, hb.n7⟩
  · rcases ha with ha | ha
    · exact h.dis g (ha ▸ h1) h2
    · rw [ha] at h1
      injection h1 with h1
      have := (h.o7.lt g h2).2
      omega
  · rcases ha with ha | ha
    · exact hb.n6 (ha ▸ e)
    · rw [ha] at e
      injection e with e
      have := lt_of_heap hb.box
      omega
theorem LY.app7 (h : LY w v6 v7 es ss y) (hb : LB v6 v7 bx f y) {a : Nat} (hown : y'.ownsRow w.heap.size 3 1 v' (ss.length + 1) (ss.map iV ++ [iV a])) (hg : y.grownBy y' v7.ownBlock) (ha : v'.ownBlock = v7.ownBlock ∨ v'.ownBlock = some y.heap.size) :
    LY w v6 v' es (ss ++ [a]) y' ∧ LB v6 v' bx f y' := by
  have hk : Keep (fun q => v7.ownBlock = some q) y y' := (Keep.refl _ y).grown hg (fun k hk => .inr hk)
  refine ⟨⟨h.keep.trans' hk (fun i hi e => by have := (h.o7.lt _ e).1; omega), owns_keep h.o6 (fun q hq => hk.block q (h.o6.lt q hq).2 (fun e => h.dis q hq e)), by simpa using hown, fun g h1 h2 => ?_⟩, hk.get hb.box hb.n7, hb.n6, fun e => ?_⟩
  · rcases ha with ha | ha
    · exact h.dis g h1 (ha ▸ h2)
    · rw [ha] at h2
      injection h2 with h2
      have := (h.o6.lt g h1).2
      omega
  · rcases ha with ha | ha
    · exact hb.n7 (ha ▸ e)
    · rw [ha] at e
      injection e with e
      have := lt_of_heap hb.box
      omega
/-- A block more for what is appended. -/
theorem Keep.grown_alloc {w y y' : World} {o : Obj} {row : Option Nat} (hg : (y.alloc o).grownBy y' row) (hr : ∀ k, row = some k → w.heap.size ≤ k) (hk : Keep (fun _ => False) w y) : Keep (fun _ => False) w y' :=
  (hk.alloc o).grown hg (fun k h => .inl (hr k h))
end
theorem info_elem : (Try.prog.info? 66).map (fun i => (i.zero, i.size, i.bytes)) = some (some (.agg #[.int .i64 0, .int .i64 0]), 2, 16) := by kernel_rfl
end Go.Proofs.Ytkgkcnmnfhehfaa

namespace Go.Proofs.Ytkgkcnmnfhehfaa
open Go.RowKit Go.Proofs.Heap Go.Proofs.Sch Go.Proofs.Wide

theorem leL_mod (k m : Nat) : leL k (m % 256 ^ k) = leL k m := by
  have h := leL_leN (leL k m)
  rw [leL_len, leN_leL] at h
  exact h
theorem putL_word (k : Int) (x : WI) : putL k x = leL (szN k) (wordN x) := leL_mod _ _
theorem run_bytes_own {w : World} {base : Nat} {sv : Value} {l : List UInt8} (h : w.ownsRow base 5 1 sv l.length (l.map byteV)) :
    (convert 69 9 sv).run Try.prog w = .ok (.string ⟨l.toArray⟩) w := by
  rcases owns_block h with ⟨rfl, h0, h1⟩ | ⟨g, cap, cur, rfl, _, hg, _⟩
  · obtain rfl : l = [] := by simpa using h1
    kernel_rfl
  · refine run_bytes_string w _ _ 5 (by kernel_rfl) (by kernel_rfl) (by kernel_rfl) g 0 _ cap l rfl fun i x hx => ?_
    rw [Nat.zero_add, owns_cell h (List.getElem?_eq_some_iff.1 hx).1, List.getElem?_map, hx]
    rfl

set_option maxRecDepth 20000 in
set_option maxHeartbeats 8000000 in
theorem r_put (k : Int) (x : WI) (w : World) (hx : x.fit) : Calls Try.prog 35 #[.int .i64 k, WV x] w fun r w' => r = .returned (.string ⟨(putL k x).toArray⟩) ∧ Keep (fun _ => False) w w' := by
  obtain ⟨i0, hi0, hz0, hz1, hz2⟩ := info_parts' info_u8
  have HX := hid hx
  have hlo : x.lo < 18446744073709551616 := hx.2
  clear hx
  go_enter Try.func35, Try.ntmps35
  obtain ⟨w1, hw1, hb1, hs1, hk1⟩ := box1 w (WC x) 57
  have HK1 := hid hk1
  have HL1 : Hid (w.heap.size ≤ w1.heap.size) := hid hk1.size
  have c0 : w1.cell? ⟨w.heap.size, 0, none⟩ = some (.bool x.neg) := cell_of hb1 (by rfl)
  have c2 : w1.cell? ⟨w.heap.size, 2, none⟩ = some (.int .u64 (x.lo : Int)) := cell_of hb1 (by rfl)
  clear hb1 hs1 hk1
  go_upto_region 1 with fail
  rw [← hw1]
  clear hw1
  generalize hq : w.heap.size = q at *
  have HQ := hid hq
  clear hq
  go_upto_if 11 with fail
  go_cut [5] from 8 to 14 (fun v wx => v = .int .u64 (wordN x : Int) ∧ w1 = wx)
  case first =>
    obtain ⟨ng, hi, lo⟩ := x
    simp only at c0 c2 hlo
    cases ng
    · go_wp2
      go_meet
      case rel => exact ⟨rfl, rfl⟩
    · have hwr := wrap_neg lo hlo
      go_wp2
      go_meet
      case rel => exact ⟨by first | rfl | (rw [show wordN ⟨true, hi, lo⟩ = (18446744073709551616 - lo) % 18446744073709551616 from rfl, ← hwr]; simp), rfl⟩
  case rest =>
  obtain ⟨rfl, rfl⟩ := hcut
  clear c0 c2
  have HN := hid (wordN_lt HX.out)
  have HP := hid (putL_word k x)
  have HSC := hid (sz_cast k)
  have HZ8 := hid (sz_le k)
  generalize wordN x = n at *
  generalize hz : szN k = z at *
  go_wp2_with fail
  go_loopw [5, 6, 7] (fun m b i wr => ∃ (j m' : Nat) (l : List UInt8), j ≤ z ∧ i = iV j ∧ m = .int .u64 (m' : Int) ∧ m' = n / 256 ^ j ∧ m' < 18446744073709551616 ∧ l = leL j n ∧ wr.ownsRow w1.heap.size 5 1 b l.length (l.map byteV) ∧ Keep (fun _ => False) w1 wr) (fun _ _ i _ => z + 1 - (intOf i).toNat)
  case atStart => exact ⟨0, n, [], Nat.zero_le _, rfl, rfl, by simp, HN.out, rfl, World.ownsRow_made w1 #[] 0 (Nat.le_refl _) (by unfold maxLen; omega) (by simp), (Keep.refl _ _).alloc _⟩
  case round =>
    obtain ⟨j, m, l, hj, rfl, rfl, hm, hm64, hl, hown, hk⟩ := hrel
    have HM := hid hm; have HM64 := hid hm64
    have hbv : Value.int .u8 ((m : Int) % 256) = byteV (UInt8.ofNat m) := by
      unfold byteV
      congr 1
    have HBV := hid hbv
    clear hm hm64 hbv
    obtain ⟨vp, vc, rfl⟩ := owns_val hown
    have HL : Hid (l.length = j) := hid (by rw [hl, leL_len])
    have HO := hid hown; have HK := hid hk; have HE := hid hl
    clear hown hk hl
    go_wp2_with fail
    refine (r_bytes k _).mono ?_
    rintro r w2 ⟨rfl, hk2⟩
    have HK2 := hid (HK.out.trans hk2); have HO2 := hid (owns_keep HO.out (fun i hi => hk2.block i (HO.out.lt i hi).2 id))
    clear hk2
    rw [HSC.out]
    by_cases hlt : j < z
    · have g1 : decide ((j : Int) < (z : Int)) = true := decide_eq_true (by omega)
      have g2 : decide (j < z) = true := decide_eq_true hlt
      have hz8 := HZ8.out; have hm64 := HM64.out
      have hwm : IntKind.u64.wrap ((m : Int) / 256) = ((m / 256 : Nat) : Int) := by simp [IntKind.wrap, IntKind.bits, IntKind.signed]; omega
      go_wp2_with (at_builtin; go_loud (refine wpList_append_rd rfl (.tmp 22) (.tmp 26) _ rfl w1.heap.size _ i0 _ 1 1 Try.underlying69 hi0 hz0 hz1 hz2 rfl (by decide) _ l.length _ (by rfl) (HO2.out.alloc _) _ 1 _ (by rfl) (rd_block (heap_alloc_new w2 _) (by simp) (by simp [Value.oneCell'])) (by unfold maxLen; have := HL.out; have := HZ8.out; omega) (by have := HL.out; have := HZ8.out; omega) (by have := HK2.out.size; simp; omega) ?_); go_loud (intro v' w5 hown5 hgrow5 hat5 hn5; obtain ⟨vq, vd, rfl⟩ := owns_val hown5; have HO5 := hid hown5; have HG5 := hid hgrow5; clear hown5 hgrow5 hat5 hn5))
      have HR : Hid (w5.ownsRow w1.heap.size 5 1 (.slice vq (l.length + 1) vd) (leL (j + 1) n).length ((leL (j + 1) n).map byteV)) := hid (by
        rw [leL_next, List.length_append, List.map_append, ← HM.out, ← HE.out]
        have h := HO5.out
        rw [HBV.out] at h
        exact h)
      have HK5 : Hid (Keep (fun _ => False) w1 w5) := hid (Keep.grown_alloc HG5.out (fun i hi => (HO2.out.lt i hi).1) HK2.out)
      have HLN : Hid (l.length + 1 = (leL (j + 1) n).length) := hid (by rw [leL_len, HL.out])
      go_wp2
      go_roundw
      case rel => exact ⟨j + 1, m / 256, leL (j + 1) n, by omega, by go_num, by simp, by rw [HM.out, Nat.div_div_eq_div_mul, Nat.pow_succ], by have := HM64.out; omega, rfl, HR.out, HK5.out⟩
      case measure => simp [intOf]; omega
    · obtain rfl : j = z := by omega
      have g1 : decide ((j : Int) < (j : Int)) = false := decide_eq_false (by omega)
      have g2 : decide (j < j) = false := decide_eq_false (by omega)
      have hrun := run_bytes_own HO2.out
      go_wp2
      go_ret
      exact ⟨by rw [HP.out, ← HE.out]; rfl, HK1.out.trans HK2.out⟩
end Go.Proofs.Ytkgkcnmnfhehfaa

namespace Go.Proofs.Ytkgkcnmnfhehfaa
open Go.RowKit Go.Proofs.Heap Go.Proofs.Wide

theorem ext_sub64 (x y c : Nat) (hc : c ≤ 1) (w : World) :
    (callFunc 82 #[.int .u64 (x : Int), .int .u64 (y : Int), .int .u64 (c : Int)]).run Try.prog w =
      .ok (.value (.tuple #[.int .u64 (((x + 18446744073709551616 - y - c) % 18446744073709551616 : Nat) : Int), .int .u64 ((if x < y + c then 1 else 0 : Nat) : Int)])) w := by
  rw [run_callFunc_extern Try.func82 (by kernel_rfl) (by kernel_rfl) (by kernel_rfl) (e := sub64Entry) (by kernel_rfl), run_sub64 x y c hc]
  simp only [Result.andThen]
set_option maxRecDepth 20000 in
set_option maxHeartbeats 8000000 in
theorem w_add_pn (a b : Nat) (hb : 0 < b) (hab : a ≤ b) (hb6 : b < 18446744073709551616) (w : World) :
    Calls Try.prog 76 #[WV ⟨false, 0, a⟩, WV ⟨true, 0, b⟩] w fun r w' => r = .returned (.tuple #[WV (normW true 0 (b - a)), .int .i64 0]) ∧ Keep (fun _ => False) w w' := by
  have hk0 : Keep (fun _ => False) w (((w.alloc (.cells (WC ⟨false, 0, a⟩) 57)).alloc (.cells (WC ⟨true, 0, b⟩) 57)).alloc (.cells Z3 57)) := (((Keep.refl (fun _ => False) w).alloc _).alloc _).alloc _
  have hb1 : (((w.alloc (.cells (WC ⟨false, 0, a⟩) 57)).alloc (.cells (WC ⟨true, 0, b⟩) 57)).alloc (.cells Z3 57)).heap[w.heap.size]? = some (.cells (WC ⟨false, 0, a⟩) 57 (0, 0)) := ((((Keep.refl (fun _ => False) _).alloc _).alloc _).get (heap_alloc_new w _) (fun h => h))
  have hb2 : (((w.alloc (.cells (WC ⟨false, 0, a⟩) 57)).alloc (.cells (WC ⟨true, 0, b⟩) 57)).alloc (.cells Z3 57)).heap[w.heap.size + 1]? = some (.cells (WC ⟨true, 0, b⟩) 57 (0, 0)) := by
    have := (((Keep.refl (fun _ => False) ((w.alloc (.cells (WC ⟨false, 0, a⟩) 57)).alloc (.cells (WC ⟨true, 0, b⟩) 57))).alloc (.cells Z3 57)).get (heap_alloc_new (w.alloc (.cells (WC ⟨false, 0, a⟩) 57)) (.cells (WC ⟨true, 0, b⟩) 57)) (fun h => h))
    simpa using this
  have hb3 : (((w.alloc (.cells (WC ⟨false, 0, a⟩) 57)).alloc (.cells (WC ⟨true, 0, b⟩) 57)).alloc (.cells Z3 57)).heap[w.heap.size + 2]? = some (.cells Z3 57 (0, 0)) := by
    have := heap_alloc_new ((w.alloc (.cells (WC ⟨false, 0, a⟩) 57)).alloc (.cells (WC ⟨true, 0, b⟩) 57)) (.cells Z3 57)
    simpa using this
  have HK0 := hid hk0; have HB1 := hid hb1; have HB2 := hid hb2; have HB3 := hid hb3
  clear hk0 hb1 hb2 hb3
  go_enter Try.func76, Try.ntmps76
  go_upto_region 1 with fail
  generalize (((w.alloc (.cells (WC ⟨false, 0, a⟩) 57)).alloc (.cells (WC ⟨true, 0, b⟩) 57)).alloc (.cells Z3 57)) = w0 at *
  generalize hsb : w.heap.size = sb at *
  have HSB := hid hsb
  clear hsb
  have a0 : w0.cell? ⟨sb, 0, none⟩ = some (.bool false) := cell_of HB1.out (by rfl)
  have a1 : w0.cell? ⟨sb, 1, none⟩ = some (.int .u64 ((0 : Nat) : Int)) := cell_of HB1.out (by rfl)
  have a2 : w0.cell? ⟨sb, 2, none⟩ = some (.int .u64 (a : Int)) := cell_of HB1.out (by rfl)
  have b0 : w0.cell? ⟨sb + 1, 0, none⟩ = some (.bool true) := cell_of HB2.out (by rfl)
  have b1 : w0.cell? ⟨sb + 1, 1, none⟩ = some (.int .u64 ((0 : Nat) : Int)) := cell_of HB2.out (by rfl)
  have b2 : w0.cell? ⟨sb + 1, 2, none⟩ = some (.int .u64 (b : Int)) := cell_of HB2.out (by rfl)
  have fta : WI.fit ⟨false, 0, a⟩ := ⟨(by decide : (0 : Nat) < 18446744073709551616), (by omega : a < 18446744073709551616)⟩
  have ftb : WI.fit ⟨true, 0, b⟩ := ⟨(by decide : (0 : Nat) < 18446744073709551616), (by omega : b < 18446744073709551616)⟩
  have FTA := hid fta; have FTB := hid ftb
  clear fta ftb
  go_wp2_with fail
  refine (w_check ⟨false, 0, a⟩ ⟨true, 0, b⟩ FTA.out FTB.out (pos_form a) (neg_form b hb) _).mono ?_
  rintro r w1 ⟨rfl, hk1⟩
  have HK1 := hid (HK0.out.trans hk1)
  have HB4 := hid (hk1.get HB1.out (fun h => h)); have HB5 := hid (hk1.get HB2.out (fun h => h)); have HB6 := hid (hk1.get HB3.out (fun h => h))
  clear hk1 a0 a1 a2 b0 b1 b2
  have a0 : w1.cell? ⟨sb, 0, none⟩ = some (.bool false) := cell_of HB4.out (by rfl)
  have a1 : w1.cell? ⟨sb, 1, none⟩ = some (.int .u64 ((0 : Nat) : Int)) := cell_of HB4.out (by rfl)
  have a2 : w1.cell? ⟨sb, 2, none⟩ = some (.int .u64 (a : Int)) := cell_of HB4.out (by rfl)
  have b0 : w1.cell? ⟨sb + 1, 0, none⟩ = some (.bool true) := cell_of HB5.out (by rfl)
  have b1 : w1.cell? ⟨sb + 1, 1, none⟩ = some (.int .u64 ((0 : Nat) : Int)) := cell_of HB5.out (by rfl)
  have b2 : w1.cell? ⟨sb + 1, 2, none⟩ = some (.int .u64 (b : Int)) := cell_of HB5.out (by rfl)
  go_wp2_with fail
  refine (w_size ⟨false, 0, a⟩ ⟨true, 0, b⟩ FTA.out FTB.out _).mono ?_
  rintro r w2 ⟨rfl, hk2⟩
  have HK2 := hid (HK1.out.trans hk2)
  have HB7 := hid (hk2.get HB4.out (fun h => h)); have HB8 := hid (hk2.get HB5.out (fun h => h)); have HB9 := hid (hk2.get HB6.out (fun h => h))
  clear hk2 a0 a1 a2 b0 b1 b2
  have a0 : w2.cell? ⟨sb, 0, none⟩ = some (.bool false) := cell_of HB7.out (by rfl)
  have a1 : w2.cell? ⟨sb, 1, none⟩ = some (.int .u64 ((0 : Nat) : Int)) := cell_of HB7.out (by rfl)
  have a2 : w2.cell? ⟨sb, 2, none⟩ = some (.int .u64 (a : Int)) := cell_of HB7.out (by rfl)
  have b0 : w2.cell? ⟨sb + 1, 0, none⟩ = some (.bool true) := cell_of HB8.out (by rfl)
  have b1 : w2.cell? ⟨sb + 1, 1, none⟩ = some (.int .u64 ((0 : Nat) : Int)) := cell_of HB8.out (by rfl)
  have b2 : w2.cell? ⟨sb + 1, 2, none⟩ = some (.int .u64 (b : Int)) := cell_of HB8.out (by rfl)
  have fa := fun i => free_of HB7.out i
  have fb := fun i => free_of HB8.out i
  have fa0 := fa 0; have fa1 := fa 1; have fa2 := fa 2; have fb0 := fb 0; have fb1 := fb 1; have fb2 := fb 2
  clear fa fb
  by_cases hlt : a < b
  · have hc : cmpN (WI.mag ⟨false, 0, a⟩) (WI.mag ⟨true, 0, b⟩) = -1 := by
      unfold cmpN WI.mag
      simp only [Nat.zero_mul, Nat.zero_add]
      rw [if_neg (by omega), if_neg (by omega)]
    rw [hc]
    clear hc
    have q1 : ∀ wz, (callFunc 82 #[.int .u64 (b : Int), .int .u64 (a : Int), .int .u64 0]).run Try.prog wz = .ok (.value (.tuple #[.int .u64 ((b - a : Nat) : Int), .int .u64 ((0 : Nat) : Int)])) wz := by
      intro wz
      have := ext_sub64 b a 0 (by omega) wz
      rwa [show (b + 18446744073709551616 - a - 0) % 18446744073709551616 = b - a by omega, if_neg (by omega)] at this
    have q2 : ∀ wz, (callFunc 82 #[.int .u64 0, .int .u64 0, .int .u64 0]).run Try.prog wz = .ok (.value (.tuple #[.int .u64 ((0 : Nat) : Int), .int .u64 ((0 : Nat) : Int)])) wz := fun wz => ext_sub64 0 0 0 (by omega) wz
    obtain ⟨d, hd⟩ : ∃ d, b - a = d := ⟨_, rfl⟩
    have HD := hid hd
    rw [hd] at q1
    have hd6 : d < 18446744073709551616 := by omega
    clear hd hlt hab
    go_wp2_with (first | rw [q2] | rw [q1])
    refine (w_fit true 0 d (by omega) hd6 _).mono ?_
    rintro r w3 ⟨rfl, hk3⟩
    have HKC := hid ((((((((Keep.refl (fun g => g = sb ∨ g = sb + 1) w2).setCell (p := ⟨sb, 0, none⟩) (.inl rfl) _).setCell (p := ⟨sb, 1, none⟩) (.inl rfl) _).setCell (p := ⟨sb, 2, none⟩) (.inl rfl) _).setCell (p := ⟨sb + 1, 0, none⟩) (.inr rfl) _).setCell (p := ⟨sb + 1, 1, none⟩) (.inr rfl) _).setCell (p := ⟨sb + 1, 2, none⟩) (.inr rfl) _).trans (hk3.mono (fun _ _ h => h.elim)))
    clear hk3
    have HK := hid (keep_new HK2.out HKC.out (fun g hg => by have := HSB.out; rcases hg with rfl | rfl <;> omega))
    have HB := hid (HKC.out.get HB9.out (by simp))
    have HZ : Hid (normW true 0 d = normW true 0 (b - a)) := hid (by rw [HD.out])
    clear HKC
    generalize normW true 0 d = z at *
    clear a0 a1 a2 b0 b1 b2 fa0 fa1 fa2 fb0 fb1 fb2 q1 q2
    have c0 := cell_of HB.out (i := 0) (by rfl)
    have c1 := cell_of HB.out (i := 1) (by rfl)
    have c2 := cell_of HB.out (i := 2) (by rfl)
    have f0 := free_of HB.out 0
    have f1 := free_of HB.out 1
    have f2 := free_of HB.out 2
    go_wp2
    (try simp only [Exit.inBlock, Exit.then])
    refine bodyPost_ret (results_ct rfl _ rfl (run_loadVar_row _ (sb + 2) _ 57 _ _ _ (cells3 (.bool z.neg) (.int .u64 (z.hi : Int)) (.int .u64 (z.lo : Int)) HB.out) Try.underlying57 rfl (by kernel_rfl))) rfl ?_
    exact ⟨by rw [← HZ.out]; rfl, ((HK.out.setCell_new (p := ⟨sb + 2, 0, none⟩) (by have := HSB.out; show _ ≤ sb + 2; omega) _).setCell_new (p := ⟨sb + 2, 1, none⟩) (by have := HSB.out; show _ ≤ sb + 2; omega) _).setCell_new (p := ⟨sb + 2, 2, none⟩) (by have := HSB.out; show _ ≤ sb + 2; omega) _⟩
  have hba : b = a := by omega
  subst hba
  have hc : cmpN (WI.mag ⟨false, 0, b⟩) (WI.mag ⟨true, 0, b⟩) = 0 := by
    simp [cmpN, WI.mag]
  rw [hc]
  clear hc
  have q1 : ∀ wz, (callFunc 82 #[.int .u64 (b : Int), .int .u64 (b : Int), .int .u64 0]).run Try.prog wz = .ok (.value (.tuple #[.int .u64 ((0 : Nat) : Int), .int .u64 ((0 : Nat) : Int)])) wz := by
    intro wz
    have := ext_sub64 b b 0 (by omega) wz
    rwa [show (b + 18446744073709551616 - b - 0) % 18446744073709551616 = 0 by omega, if_neg (by omega)] at this
  have q2 : ∀ wz, (callFunc 82 #[.int .u64 0, .int .u64 0, .int .u64 0]).run Try.prog wz = .ok (.value (.tuple #[.int .u64 ((0 : Nat) : Int), .int .u64 ((0 : Nat) : Int)])) wz := fun wz => ext_sub64 0 0 0 (by omega) wz
  go_wp2_with (first | rw [q2] | rw [q1])
  refine (w_fit false 0 0 (by omega) (by omega) _).mono ?_
  rintro r w3 ⟨rfl, hk3⟩
  have HK := hid (HK2.out.trans hk3)
  have HB := hid (hk3.get HB9.out (fun h => h))
  have HZ : Hid (normW false 0 0 = normW true 0 (b - b)) := hid (by rw [Nat.sub_self]; rfl)
  clear hk3
  generalize normW false 0 0 = z at *
  clear a0 a1 a2 b0 b1 b2 fa0 fa1 fa2 fb0 fb1 fb2 q1 q2
  have c0 := cell_of HB.out (i := 0) (by rfl)
  have c1 := cell_of HB.out (i := 1) (by rfl)
  have c2 := cell_of HB.out (i := 2) (by rfl)
  have f0 := free_of HB.out 0
  have f1 := free_of HB.out 1
  have f2 := free_of HB.out 2
  go_wp2
  (try simp only [Exit.inBlock, Exit.then])
  refine bodyPost_ret (results_ct rfl _ rfl (run_loadVar_row _ (sb + 2) _ 57 _ _ _ (cells3 (.bool z.neg) (.int .u64 (z.hi : Int)) (.int .u64 (z.lo : Int)) HB.out) Try.underlying57 rfl (by kernel_rfl))) rfl ?_
  exact ⟨by rw [← HZ.out]; rfl, ((HK.out.setCell_new (p := ⟨sb + 2, 0, none⟩) (by have := HSB.out; show _ ≤ sb + 2; omega) _).setCell_new (p := ⟨sb + 2, 1, none⟩) (by have := HSB.out; show _ ≤ sb + 2; omega) _).setCell_new (p := ⟨sb + 2, 2, none⟩) (by have := HSB.out; show _ ≤ sb + 2; omega) _⟩
set_option maxRecDepth 20000 in
set_option maxHeartbeats 8000000 in
theorem w_sub_pp (a b : Nat) (hb : 0 < b) (hab : a ≤ b) (hb6 : b < 18446744073709551616) (w : World) :
    Calls Try.prog 60 #[WV ⟨false, 0, a⟩, WV ⟨false, 0, b⟩] w fun r w' => r = .returned (.tuple #[WV (normW true 0 (b - a)), .int .i64 0]) ∧ Keep (fun _ => False) w w' := by
  have hk0 : Keep (fun _ => False) w (((w.alloc (.cells (WC ⟨false, 0, a⟩) 57)).alloc (.cells (WC ⟨false, 0, b⟩) 57)).alloc (.cells Z3 57)) := (((Keep.refl (fun _ => False) w).alloc _).alloc _).alloc _
  have hb1 : (((w.alloc (.cells (WC ⟨false, 0, a⟩) 57)).alloc (.cells (WC ⟨false, 0, b⟩) 57)).alloc (.cells Z3 57)).heap[w.heap.size]? = some (.cells (WC ⟨false, 0, a⟩) 57 (0, 0)) := ((((Keep.refl (fun _ => False) _).alloc _).alloc _).get (heap_alloc_new w _) (fun h => h))
  have hb2 : (((w.alloc (.cells (WC ⟨false, 0, a⟩) 57)).alloc (.cells (WC ⟨false, 0, b⟩) 57)).alloc (.cells Z3 57)).heap[w.heap.size + 1]? = some (.cells (WC ⟨false, 0, b⟩) 57 (0, 0)) := by
    have := (((Keep.refl (fun _ => False) ((w.alloc (.cells (WC ⟨false, 0, a⟩) 57)).alloc (.cells (WC ⟨false, 0, b⟩) 57))).alloc (.cells Z3 57)).get (heap_alloc_new (w.alloc (.cells (WC ⟨false, 0, a⟩) 57)) (.cells (WC ⟨false, 0, b⟩) 57)) (fun h => h))
    simpa using this
  have hb3 : (((w.alloc (.cells (WC ⟨false, 0, a⟩) 57)).alloc (.cells (WC ⟨false, 0, b⟩) 57)).alloc (.cells Z3 57)).heap[w.heap.size + 2]? = some (.cells Z3 57 (0, 0)) := by
    have := heap_alloc_new ((w.alloc (.cells (WC ⟨false, 0, a⟩) 57)).alloc (.cells (WC ⟨false, 0, b⟩) 57)) (.cells Z3 57)
    simpa using this
  have HK0 := hid hk0; have HB1 := hid hb1; have HB2 := hid hb2; have HB3 := hid hb3
  clear hk0 hb1 hb2 hb3
  go_enter Try.func60, Try.ntmps60
  go_upto_region 1 with fail
  generalize (((w.alloc (.cells (WC ⟨false, 0, a⟩) 57)).alloc (.cells (WC ⟨false, 0, b⟩) 57)).alloc (.cells Z3 57)) = w0 at *
  generalize hsb : w.heap.size = sb at *
  have HSB := hid hsb
  clear hsb
  have a0 : w0.cell? ⟨sb, 0, none⟩ = some (.bool false) := cell_of HB1.out (by rfl)
  have a1 : w0.cell? ⟨sb, 1, none⟩ = some (.int .u64 ((0 : Nat) : Int)) := cell_of HB1.out (by rfl)
  have a2 : w0.cell? ⟨sb, 2, none⟩ = some (.int .u64 (a : Int)) := cell_of HB1.out (by rfl)
  have b0 : w0.cell? ⟨sb + 1, 0, none⟩ = some (.bool false) := cell_of HB2.out (by rfl)
  have b1 : w0.cell? ⟨sb + 1, 1, none⟩ = some (.int .u64 ((0 : Nat) : Int)) := cell_of HB2.out (by rfl)
  have b2 : w0.cell? ⟨sb + 1, 2, none⟩ = some (.int .u64 (b : Int)) := cell_of HB2.out (by rfl)
  have fta : WI.fit ⟨false, 0, a⟩ := ⟨(by decide : (0 : Nat) < 18446744073709551616), (by omega : a < 18446744073709551616)⟩
  have ftb : WI.fit ⟨false, 0, b⟩ := ⟨(by decide : (0 : Nat) < 18446744073709551616), (by omega : b < 18446744073709551616)⟩
  have FTA := hid fta; have FTB := hid ftb
  clear fta ftb
  go_wp2_with fail
  refine (w_check ⟨false, 0, a⟩ ⟨false, 0, b⟩ FTA.out FTB.out (pos_form a) (pos_form b) _).mono ?_
  rintro r w1 ⟨rfl, hk1⟩
  have HK1 := hid (HK0.out.trans hk1).drew
  have HB4 := hid (hk1.drew.get HB1.out (fun h => h)); have HB5 := hid (hk1.drew.get HB2.out (fun h => h)); have HB6 := hid (hk1.drew.get HB3.out (fun h => h))
  clear hk1 a0 a1 a2 b0 b1 b2
  have a0 : w1.drew.cell? ⟨sb, 0, none⟩ = some (.bool false) := cell_of HB4.out (by rfl)
  have a1 : w1.drew.cell? ⟨sb, 1, none⟩ = some (.int .u64 ((0 : Nat) : Int)) := cell_of HB4.out (by rfl)
  have a2 : w1.drew.cell? ⟨sb, 2, none⟩ = some (.int .u64 (a : Int)) := cell_of HB4.out (by rfl)
  have b0 : w1.drew.cell? ⟨sb + 1, 0, none⟩ = some (.bool false) := cell_of HB5.out (by rfl)
  have b1 : w1.drew.cell? ⟨sb + 1, 1, none⟩ = some (.int .u64 ((0 : Nat) : Int)) := cell_of HB5.out (by rfl)
  have b2 : w1.drew.cell? ⟨sb + 1, 2, none⟩ = some (.int .u64 (b : Int)) := cell_of HB5.out (by rfl)
  go_wp2_with fail
  refine Plan.wp_region_pl [(false, 0, []), (false, 1, []), (true, 2, [0]), (true, 3, []), (false, 4, []), (false, 5, []), (true, 6, []), (false, 7, [])] (by kernel_rfl) (by kernel_rfl) ?_
  repeat (refine Plan.pl_st rfl ?_; go_big_quiet_step (fail); refine wpQuiet_nil ?_)
  refine Plan.pl_ac rfl ?_
  go_wp2_with fail
  refine (w_neg ⟨false, 0, b⟩ FTB.out (pos_form b) _).mono ?_
  rintro r w2 ⟨rfl, hk2⟩
  rw [show normW (!(false : Bool)) 0 b = ⟨true, 0, b⟩ from normW_neg b hb]
  have HK2 := hid (HK1.out.trans hk2)
  have HB7 := hid (hk2.get HB4.out (fun h => h)); have HB8 := hid (hk2.get HB5.out (fun h => h)); have HB9 := hid (hk2.get HB6.out (fun h => h))
  clear hk2 a0 a1 a2 b0 b1 b2
  have a0 : w2.cell? ⟨sb, 0, none⟩ = some (.bool false) := cell_of HB7.out (by rfl)
  have a1 : w2.cell? ⟨sb, 1, none⟩ = some (.int .u64 ((0 : Nat) : Int)) := cell_of HB7.out (by rfl)
  have a2 : w2.cell? ⟨sb, 2, none⟩ = some (.int .u64 (a : Int)) := cell_of HB7.out (by rfl)
  have b0 : w2.cell? ⟨sb + 1, 0, none⟩ = some (.bool false) := cell_of HB8.out (by rfl)
  have b1 : w2.cell? ⟨sb + 1, 1, none⟩ = some (.int .u64 ((0 : Nat) : Int)) := cell_of HB8.out (by rfl)
  have b2 : w2.cell? ⟨sb + 1, 2, none⟩ = some (.int .u64 (b : Int)) := cell_of HB8.out (by rfl)
  go_wp2
  refine Plan.plQ_mk ?_ ?_
  · repeat (refine Plan.chk_st rfl ?_ ?_; focus (go_big_quiet_step (fail); exact wpQuiet_nil rfl))
    exact Plan.chk_end
  refine Plan.pl_ac rfl ?_
  go_wp2_with fail
  refine (w_add_pn a b hb hab hb6 _).mono ?_
  rintro r w3 ⟨rfl, hk3⟩
  have HK := hid (HK2.out.trans hk3)
  have HB := hid (hk3.get HB9.out (fun h => h))
  clear hk3 a0 a1 a2 b0 b1 b2
  obtain ⟨z, hz⟩ : ∃ z, normW true 0 (b - a) = z := ⟨_, rfl⟩
  rw [hz]
  have HZ := hid hz
  clear hz
  have c0 := cell_of HB.out (i := 0) (by rfl)
  have c1 := cell_of HB.out (i := 1) (by rfl)
  have c2 := cell_of HB.out (i := 2) (by rfl)
  have f0 := free_of HB.out 0
  have f1 := free_of HB.out 1
  have f2 := free_of HB.out 2
  go_wp2
  refine Plan.plQ_mk ?_ ?_
  · exact Plan.chk_end
  repeat (refine Plan.pl_st rfl ?_; go_big_quiet_step (fail); refine wpQuiet_nil ?_)
  refine Plan.pl_ac rfl ?_
  go_wp2
  refine Plan.plQ_mk ?_ ?_
  · exact Plan.chk_end
  repeat (refine Plan.pl_st rfl ?_; go_big_quiet_step (fail); refine wpQuiet_nil ?_)
  refine Plan.pl_end ?_
  go_wp2
  (try simp only [Exit.inBlock, Exit.then])
  refine bodyPost_ret (results_ct rfl _ rfl (run_loadVar_row _ (sb + 2) _ 57 _ _ _ (cells3 (.bool z.neg) (.int .u64 (z.hi : Int)) (.int .u64 (z.lo : Int)) HB.out) Try.underlying57 rfl (by kernel_rfl))) rfl ?_
  exact ⟨by rw [HZ.out]; rfl, ((HK.out.setCell_new (p := ⟨sb + 2, 0, none⟩) (by have := HSB.out; show _ ≤ sb + 2; omega) _).setCell_new (p := ⟨sb + 2, 1, none⟩) (by have := HSB.out; show _ ≤ sb + 2; omega) _).setCell_new (p := ⟨sb + 2, 2, none⟩) (by have := HSB.out; show _ ≤ sb + 2; omega) _⟩

end Go.Proofs.Ytkgkcnmnfhehfaa
