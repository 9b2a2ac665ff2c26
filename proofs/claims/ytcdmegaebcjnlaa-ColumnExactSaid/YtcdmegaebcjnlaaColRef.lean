/- What is proved: what the document's column (retrofitref06) does: Append, Set, Swap, Chunks; and whether two rows of texts are the same. -/
import Derived.Test.YtcdmegaebcjnlaaColWalk4
namespace Go.Proofs.Ytcdmegaebcjnlaa
open Go.RowKit Go.Proofs.Heap Go.Proofs.Col

/-- The document's column: its header in block u, its list of rows. -/
structure RC (w : World) (u sz cap : Nat) (Lv : Value) (rows : List (List UInt8)) : Prop where
  head : w.heap[u]? = some (Obj.cells #[Value.int .i64 (sz : Int), Value.int .i64 (cap : Int), Lv] 46 (0, 0))
  own : w.ownsRow 0 9 1 Lv rows.length (rows.map rowS)
  ne : Lv.ownBlock ≠ some u
  sz_le : sz ≤ 256
  n_le : rows.length ≤ cap
  cap_le : cap ≤ 65536

theorem RC.keep {w w' : World} {u sz cap : Nat} {Lv : Value} {rows : List (List UInt8)} (h : RC w u sz cap Lv rows) (h1 : w'.heap[u]? = w.heap[u]?) (h2 : ∀ g, Lv.ownBlock = some g → w'.heap[g]? = w.heap[g]?) : RC w' u sz cap Lv rows :=
  { h with head := by rw [h1]; exact h.head, own := owns_keep h.own h2 }

theorem rowS_one (rows : List (List UInt8)) : ∀ u ∈ rows.map rowS, u.oneCell' = true := by
  intro u hu
  obtain ⟨l, _, rfl⟩ := List.mem_map.1 hu
  rfl

theorem rowS_bytes (s : ByteArray) : rowS (bytesOf s) = .string s := by
  cases s; rfl

theorem bytes_mkS (l : List UInt8) : bytesOf (mkS l) = l := by simp [bytesOf, mkS]

set_option maxHeartbeats 400000 in
theorem ref_app_form {u sz : Nat} (w : World) (h : w.cell? ⟨u, 0, none⟩ = some (.int .i64 sz)) (s : ByteArray) (hs : s.size ≠ sz) :
    Calls Try.prog 19 #[.pointer (some ⟨u, 0, none⟩), .string s] w fun e w' => e = .returned (.int .i64 4) ∧ w = w' := by
  have hs' : ((s.size : Int) != (sz : Int)) = true := by simp; omega
  clear hs
  go_enter Try.func19, Try.ntmps19
  go_wp2
  go_ret
  exact ⟨rfl, rfl⟩

set_option maxHeartbeats 400000 in
theorem ref_app_full {u sz cap : Nat} {Lv : Value} {rows : List (List UInt8)} (w : World) (h : RC w u sz cap Lv rows) (s : ByteArray) (hs : s.size = sz) (hn : rows.length = cap) :
    Calls Try.prog 19 #[.pointer (some ⟨u, 0, none⟩), .string s] w fun e w' => e = .returned (.int .i64 5) ∧ w.drew = w' := by
  have hs' : ((s.size : Int) != (sz : Int)) = false := by simp [hs]
  obtain ⟨p, c, rfl⟩ := owns_val h.own
  have h0 : w.cell? ⟨u, 0, none⟩ = some (.int .i64 sz) := cell_of h.head rfl
  have h1 : w.cell? ⟨u, 1, none⟩ = some (.int .i64 cap) := cell_of h.head rfl
  have h2 : w.cell? ⟨u, 2, none⟩ = some (.slice p rows.length c) := cell_of h.head rfl
  have hle : (cap : Int) ≤ (rows.length : Int) := by omega
  clear hs hn h
  go_enter Try.func19, Try.ntmps19
  go_wp2
  refine Plan.wp_region_reads (by kernel_rfl) (by kernel_rfl) ?_
  repeat (go_big_quiet_step (fail))
  refine wpQuiet_nil ?_
  go_wp2
  go_ret
  exact ⟨rfl, rfl⟩

/-- What a call of the document's column leaves: its header and its list alone are others; the list is new, or as it was. -/
def RCto (w w' : World) (u sz cap : Nat) (Lv : Value) (rows' : List (List UInt8)) : Prop :=
  ∃ Lv', RC w' u sz cap Lv' rows' ∧ Keep (fun k => k = u) w w' ∧ ∀ g, Lv'.ownBlock = some g → Lv.ownBlock = some g ∨ w.heap.size ≤ g

set_option maxHeartbeats 1000000 in
theorem ref_app_ok {u sz cap : Nat} {Lv : Value} {rows : List (List UInt8)} (w : World) (h : RC w u sz cap Lv rows) (s : ByteArray) (hs : s.size = sz) (hn : rows.length < cap) :
    Calls Try.prog 19 #[.pointer (some ⟨u, 0, none⟩), .string s] w fun e w' => e = .returned (.int .i64 0) ∧ RCto w w' u sz cap Lv (rows ++ [bytesOf s]) := by
  have hs' : ((s.size : Int) != (sz : Int)) = false := by simp [hs]
  obtain ⟨i0, hi0, hz0, hz1, hz2⟩ := info_parts info_str
  obtain ⟨p, c, rfl⟩ := owns_val h.own
  have h0 : w.cell? ⟨u, 0, none⟩ = some (.int .i64 sz) := cell_of h.head rfl
  have h1 : w.cell? ⟨u, 1, none⟩ = some (.int .i64 cap) := cell_of h.head rfl
  have h2 : w.cell? ⟨u, 2, none⟩ = some (.slice p rows.length c) := cell_of h.head rfl
  have hle : (rows.length : Int) < (cap : Int) := by omega
  have hul : u < w.heap.size := lt_of_heap h.head
  have hcap := h.cap_le
  have hrd : Rd (w.drew.alloc (.cells #[] 9)) 1 (.slice p rows.length c) rows.length (rows.map rowS) := rd_own (h.own.alloc _) (rowS_one rows)
  have hown : (w.drew.alloc (.cells #[] 9)).ownsRow w.heap.size 9 1 (.slice (some ⟨w.heap.size, 0, none⟩) 0 0) 0 [] := World.ownsRow_made w.drew #[] 0 (Nat.le_refl _) (by unfold maxLen; omega) (by simp)
  have HC := hid h; have HR := hid hrd; have HO := hid hown
  clear hs hn h hrd hown
  go_enter Try.func19, Try.ntmps19
  go_wp2
  refine Plan.wp_region_reads (by kernel_rfl) (by kernel_rfl) ?_
  repeat (go_big_quiet_step (fail))
  refine wpQuiet_nil ?_
  go_wp2_with (first
    | (at_builtin; refine wpList_append_rd rfl (.tmp 23) (.tmp 27) _ rfl w.heap.size _ i0 _ 1 16 Try.underlying36 hi0 hz0 hz1 hz2 rfl (by decide) _ 0 _ (by rfl) HO.out _ rows.length _ (by rfl) HR.out (by unfold maxLen; omega) (by omega) (by simp) ?_; intro v1 w1 hown1 hgrow1 hat1 hn1; simp only [Nat.zero_add, List.nil_append] at hown1; have HO1 := hid hown1; have HG1 := hid hgrow1; clear hown1 hgrow1 hat1 hn1)
    | (at_builtin; refine wpList_append_rd rfl (.tmp 28) (.tmp 30) _ rfl w.heap.size _ i0 _ 1 16 Try.underlying36 hi0 hz0 hz1 hz2 rfl (by decide) _ rows.length _ (by rfl) (HO1.out.alloc _) _ 1 [.string s] (by rfl) (rd_block (heap_alloc_new w1 _) (by simp) (by simp [Value.oneCell'])) (by unfold maxLen; omega) (by omega) (by have := HG1.out.size; simp at this ⊢; omega) ?_; intro v2 w2 hown2 hgrow2 hat2 hn2; obtain ⟨p2, c2, rfl⟩ := owns_val hown2; have hb1 := ((Below.refl w.heap.size w).drew.alloc (Nat.le_refl _) (.cells #[] 9)).grown HG1.out (by simp) (by intro k hk; simp [Value.ownBlock] at hk; omega); have hs1 := hb1.size; have hb2 := (hb1.alloc hs1 _).grown hgrow2 (by simp; omega) (fun k hk => (HO1.out.lt k hk).1); have hu2 := (hb2.cell (p := ⟨u, 2, none⟩) hul).trans h2; have hf2 := (hb2.frozen (p := ⟨u, 2, none⟩) hul).trans (free_of HC.out.head 2); have HB := hid hb2; have HO2 := hid hown2; clear hb1 hs1 hb2 hgrow2 hat2 hn2 hown2))
  go_ret
  refine ⟨rfl, .slice p2 (rows.length + 1) c2, ?_, ?_, ?_⟩
  · have hh := (HB.out.block u hul).trans HC.out.head
    refine { head := ?_, own := ?_, ne := ?_, sz_le := HC.out.sz_le, n_le := by simp; omega, cap_le := HC.out.cap_le }
    · rw [hsc_same hh]; rfl
    · have := owns_low HO2.out
      simp only [List.map_append, List.map_cons, List.map_nil, rowS_bytes, List.length_append, List.length_cons, List.length_nil]
      refine owns_keep this (fun g hg => hsc_ne _ (fun e => ?_))
      have := (HO2.out.lt g hg).1
      omega
    · intro e
      have := (HO2.out.lt u e).1
      omega
  · exact (Keep.of_below (S := fun k => k = u) HB.out).setCell rfl _
  · intro g hg
    exact .inr (HO2.out.lt g hg).1

/-- An owned row, one of whose elements is written. -/
theorem owns_set {w : World} {base : Nat} {e : TypeId} {g c n : Nat} {xs : List Value} (h : w.ownsRow base e 1 (.slice (some ⟨g, 0, none⟩) n c) n xs) (k : Nat) (x : Value) (hk : k < n) :
    (w.setCell ⟨g, k, none⟩ x).ownsRow base e 1 (.slice (some ⟨g, 0, none⟩) n c) n (xs.set k x) := by
  rcases owns_block h with ⟨e1, _⟩ | ⟨g', c', cur, e1, hb, hg, hn, hm, hs, ht⟩
  · cases e1
  · injection e1 with e1 _ e2
    injection e1 with e1
    injection e1 with e1
    subst e1; subst e2
    refine ⟨by simpa using h.1, .inr ⟨g, c, _, rfl, hb, hsc_same hg k x, hn, hm, by simpa using hs, ?_⟩⟩
    rw [← ht, Array.toList_setIfInBounds]
    apply List.ext_getElem?
    intro j
    simp only [Nat.mul_one, List.getElem?_take, List.getElem?_set, List.length_take]
    split <;> split <;> simp_all <;> omega

/-- Its first elements. -/
theorem owns_take {w : World} {base : Nat} {e : TypeId} {p : Option Addr} {c n m : Nat} {xs : List Value} (h : w.ownsRow base e 1 (.slice p n c) n xs) (hm : m ≤ n) (hp : p ≠ none) :
    w.ownsRow base e 1 (.slice p m c) m (xs.take m) := by
  rcases owns_block h with ⟨e1, _⟩ | ⟨g', c', cur, e1, hb, hg, hn, hm2, hs, ht⟩
  · injection e1 with e1; exact absurd e1 hp
  · injection e1 with e1 _ e2
    subst e1; subst e2
    have hl := h.1
    refine ⟨by simp; omega, .inr ⟨g', c, cur, rfl, hb, hg, by omega, hm2, hs, ?_⟩⟩
    rw [← ht, List.take_take]
    congr 1
    omega

set_option maxHeartbeats 1000000 in
theorem ref_set_ok {u sz cap : Nat} {Lv : Value} {rows : List (List UInt8)} (w : World) (h : RC w u sz cap Lv rows) (i : Nat) (hi : i < rows.length) (s : ByteArray) (hs : s.size = sz) :
    Calls Try.prog 20 #[.pointer (some ⟨u, 0, none⟩), .int .i64 (i : Int), .string s] w fun e w' => e = .returned (.int .i64 0) ∧ RCto w w' u sz cap Lv (rows.set i (bytesOf s)) := by
  have hs' : ((s.size : Int) != (sz : Int)) = false := by simp [hs]
  obtain ⟨i0, hi0, hz0, hz1, hz2⟩ := info_parts info_str
  obtain ⟨p, c, rfl⟩ := owns_val h.own
  have h0 : w.cell? ⟨u, 0, none⟩ = some (.int .i64 sz) := cell_of h.head rfl
  have h1 : w.cell? ⟨u, 1, none⟩ = some (.int .i64 cap) := cell_of h.head rfl
  have h2 : w.cell? ⟨u, 2, none⟩ = some (.slice p rows.length c) := cell_of h.head rfl
  have hi' : (0 : Int) ≤ (i : Int) ∧ (i : Int) < (rows.length : Int) := ⟨by omega, by omega⟩
  have hul : u < w.heap.size := lt_of_heap h.head
  have hcap := h.cap_le
  have hnl := h.n_le
  have hrd : Rd (w.alloc (.cells #[] 9)) 1 (.slice p rows.length c) rows.length (rows.map rowS) := rd_own (h.own.alloc _) (rowS_one rows)
  have hown : (w.alloc (.cells #[] 9)).ownsRow w.heap.size 9 1 (.slice (some ⟨w.heap.size, 0, none⟩) 0 0) 0 [] := World.ownsRow_made w #[] 0 (Nat.le_refl _) (by unfold maxLen; omega) (by simp)
  have HC := hid h; have HR := hid hrd; have HO := hid hown; have HS := hid hi
  clear hs h hrd hown hi
  go_enter Try.func20, Try.ntmps20
  go_wp2_with (first
    | (at_builtin; refine wpList_append_rd rfl (.tmp 26) (.tmp 30) _ rfl w.heap.size _ i0 _ 1 16 Try.underlying36 hi0 hz0 hz1 hz2 rfl (by decide) _ 0 _ (by rfl) HO.out _ rows.length _ (by rfl) HR.out (by unfold maxLen; omega) (by omega) (by simp) ?_; intro v1 w1 hown1 hgrow1 hat1 hn1; simp only [Nat.zero_add, List.nil_append] at hown1; obtain ⟨p1, c1, rfl⟩ := owns_val hown1; have hb1 := ((Below.refl w.heap.size w).alloc (Nat.le_refl _) (.cells #[] 9)).grown hgrow1 (by simp) (by intro k hk; simp [Value.ownBlock] at hk; omega); have hu2 := (hb1.cell (p := ⟨u, 2, none⟩) hul).trans h2; have hf2 := (hb1.frozen (p := ⟨u, 2, none⟩) hul).trans (free_of HC.out.head 2); have HB := hid hb1; have HO1 := hid hown1; obtain ⟨g1, rfl⟩ : ∃ g, p1 = some ⟨g, 0, none⟩ := owns_some hown1 (by omega); have hg1 := (hown1.lt g1 rfl).1; have hx1 := (owns_cell hown1 HS.out).trans (show (rows.map rowS)[i]? = some (rowS (rows[i]'HS.out)) by simp [HS.out]); have hxf := owns_free hown1 i; have hug : ¬ u = g1 := (by omega); clear hown1 hgrow1 hat1 hn1 hb1))
  go_ret
  refine ⟨rfl, .slice (some ⟨g1, 0, none⟩) rows.length c1, ?_, ?_, ?_⟩
  · have hh := (HB.out.block u hul).trans HC.out.head
    refine { head := ?_, own := ?_, ne := ?_, sz_le := HC.out.sz_le, n_le := by simpa using HC.out.n_le, cap_le := HC.out.cap_le }
    · rw [hsc_ne _ hug, hsc_same hh]; simp
    · have := owns_set (owns_keep (owns_low HO1.out) (fun g hg => hsc_ne (w := w1) (g := u) (i := 2) (.slice (some ⟨g1, 0, none⟩) rows.length c1) (fun e => by have := (HO1.out.lt g hg).1; omega))) i (.string s) HS.out
      rw [List.length_set, List.map_set, rowS_bytes]
      exact this
    · intro e
      have := (HO1.out.lt u e).1
      omega
  · exact ((Keep.of_below (S := fun k => k = u) HB.out).setCell rfl _).setCell_new hg1 _
  · intro g hg
    exact .inr (HO1.out.lt g hg).1

theorem owns_le {w : World} {base : Nat} {e : TypeId} {g c m : Nat} {xs : List Value} (h : w.ownsRow base e 1 (.slice (some ⟨g, 0, none⟩) (m + 1) c) (m + 1) xs) : m ≤ c := by
  rcases owns_block h with ⟨e1, _⟩ | ⟨g', c', cur, e1, _, _, hn, _⟩
  · cases e1
  · injection e1 with _ _ e2; omega

set_option maxHeartbeats 1000000 in
theorem ref_swap_ok {u sz cap : Nat} {Lv : Value} {rows : List (List UInt8)} (w : World) (h : RC w u sz cap Lv rows) (i m : Nat) (hm : rows.length = m + 1) (hi : i < m + 1) :
    Calls Try.prog 21 #[.pointer (some ⟨u, 0, none⟩), .int .i64 (i : Int)] w fun e w' => e = .returned (.tuple #[.int .i64 m, .int .i64 0]) ∧ RCto w w' u sz cap Lv ((rows.set i (rows[m]?.getD [])).take m) := by
  obtain ⟨i0, hi0, hz0, hz1, hz2⟩ := info_parts info_str
  obtain ⟨p, c, rfl⟩ := owns_val h.own
  have h2 : w.cell? ⟨u, 2, none⟩ = some (.slice p (m + 1) c) := by rw [← hm]; exact cell_of h.head rfl
  have hi' : (0 : Int) ≤ (i : Int) ∧ (i : Int) < (m : Int) + 1 := ⟨by omega, by omega⟩
  have hmm : (m : Int) < (m : Int) + 1 := by omega
  have hul : u < w.heap.size := lt_of_heap h.head
  have hcap := h.cap_le
  have hnl := h.n_le
  have hml : m ≤ 65536 := by omega
  have hrd : Rd (w.alloc (.cells #[] 9)) 1 (.slice p (m + 1) c) (m + 1) (rows.map rowS) := by rw [← hm]; exact rd_own (h.own.alloc _) (rowS_one rows)
  have hown : (w.alloc (.cells #[] 9)).ownsRow w.heap.size 9 1 (.slice (some ⟨w.heap.size, 0, none⟩) 0 0) 0 [] := World.ownsRow_made w #[] 0 (Nat.le_refl _) (by unfold maxLen; omega) (by simp)
  have hxm : (rows.map rowS)[m]? = some (rowS (rows[m]?.getD [])) := by
    have : m < rows.length := by omega
    simp [this]
  have hxi : ∃ x, (rows.map rowS)[i]? = some x := ⟨_, List.getElem?_eq_getElem (by simp; omega)⟩
  have HC := hid h; have HR := hid hrd; have HO := hid hown; have HM := hid hm; have HXM := hid hxm; have HXI := hid hxi
  clear h hrd hown hm hxm hxi hnl
  go_enter Try.func21, Try.ntmps21
  go_wp2_with (first
    | (at_builtin; refine wpList_append_rd rfl (.tmp 25) (.tmp 29) _ rfl w.heap.size _ i0 _ 1 16 Try.underlying36 hi0 hz0 hz1 hz2 rfl (by decide) _ 0 _ (by rfl) HO.out _ (m + 1) _ (by rfl) HR.out (by unfold maxLen; omega) (by omega) (by simp) ?_; intro v1 w1 hown1 hgrow1 hat1 hn1; simp only [Nat.zero_add, List.nil_append] at hown1; obtain ⟨p1, c1, rfl⟩ := owns_val hown1; have hb1 := ((Below.refl w.heap.size w).alloc (Nat.le_refl _) (.cells #[] 9)).grown hgrow1 (by simp) (by intro k hk; simp [Value.ownBlock] at hk; omega); have hu2 := (hb1.cell (p := ⟨u, 2, none⟩) hul).trans h2; have hf2 := (hb1.frozen (p := ⟨u, 2, none⟩) hul).trans (free_of HC.out.head 2); have HB := hid hb1; have HO1 := hid hown1; obtain ⟨g1, rfl⟩ : ∃ g, p1 = some ⟨g, 0, none⟩ := owns_some hown1 (by omega); have hg1 := (hown1.lt g1 rfl).1; have hx1 := (owns_cell hown1 (show m < m + 1 by omega)).trans HXM.out; have hxf := owns_free hown1 i; have hug : ¬ u = g1 := (by omega); obtain ⟨xi, hxi⟩ := HXI.out; have hx2 := (owns_cell hown1 hi).trans hxi; have hcc1 : m ≤ c1 := (owns_le hown1); clear hown1 hgrow1 hat1 hn1 hb1 hxi))
  go_ret2
  refine ⟨rfl, .slice (some ⟨g1, 0, none⟩) m c1, ?_, ?_, ?_⟩
  · have hh := (HB.out.block u hul).trans HC.out.head
    have hl : ((rows.set i (rows[m]?.getD [])).take m).length = m := by have := HM.out; simp; omega
    refine { head := ?_, own := ?_, ne := ?_, sz_le := HC.out.sz_le, n_le := by have := HC.out.n_le; have := HM.out; omega, cap_le := HC.out.cap_le }
    · rw [hsc_same ((hsc_ne _ hug).trans hh)]; simp
    · rw [hl, List.map_take, List.map_set]
      have h1 := owns_take (owns_set (owns_low HO1.out) i (rowS (rows[m]?.getD [])) hi) (Nat.le_succ m) (by simp)
      exact owns_keep h1 (fun g hg => hsc_ne _ (fun e => by simp [Value.ownBlock] at hg; omega))
    · simp [Value.ownBlock]; omega
  · exact ((Keep.of_below (S := fun k => k = u) HB.out).setCell_new hg1 _).setCell rfl _
  · intro g hg
    simp [Value.ownBlock] at hg
    exact .inr (by omega)

set_option maxHeartbeats 400000 in
theorem ref_swap_out {u sz cap : Nat} {Lv : Value} {rows : List (List UInt8)} (w : World) (h : RC w u sz cap Lv rows) (i : Int) (hi : i < 0 ∨ (rows.length : Int) ≤ i) :
    Calls Try.prog 21 #[.pointer (some ⟨u, 0, none⟩), .int .i64 i] w fun e w' => e = .returned (.tuple #[.int .i64 0, .int .i64 3]) ∧ w = w' := by
  obtain ⟨p, c, rfl⟩ := owns_val h.own
  have h2 : w.cell? ⟨u, 2, none⟩ = some (.slice p rows.length c) := cell_of h.head rfl
  clear h
  by_cases h0 : i < 0
  · go_enter Try.func21, Try.ntmps21
    go_wp2
    go_ret2
    exact ⟨rfl, rfl⟩
  · have h1 : (rows.length : Int) ≤ i := by omega
    go_enter Try.func21, Try.ntmps21
    go_wp2
    go_ret2
    exact ⟨rfl, rfl⟩

set_option maxHeartbeats 400000 in
theorem ref_set_out {u sz cap : Nat} {Lv : Value} {rows : List (List UInt8)} (w : World) (h : RC w u sz cap Lv rows) (i : Int) (s : ByteArray) (hi : i < 0 ∨ (rows.length : Int) ≤ i) :
    Calls Try.prog 20 #[.pointer (some ⟨u, 0, none⟩), .int .i64 i, .string s] w fun e w' => e = .returned (.int .i64 3) ∧ w = w' := by
  obtain ⟨p, c, rfl⟩ := owns_val h.own
  have h2 : w.cell? ⟨u, 2, none⟩ = some (.slice p rows.length c) := cell_of h.head rfl
  clear h
  by_cases h0 : i < 0
  · go_enter Try.func20, Try.ntmps20
    go_wp2
    go_ret
    exact ⟨rfl, rfl⟩
  · have h1 : (rows.length : Int) ≤ i := by omega
    go_enter Try.func20, Try.ntmps20
    go_wp2
    go_ret
    exact ⟨rfl, rfl⟩

set_option maxHeartbeats 400000 in
theorem ref_set_form {u sz cap : Nat} {Lv : Value} {rows : List (List UInt8)} (w : World) (h : RC w u sz cap Lv rows) (i : Int) (s : ByteArray) (h0 : 0 ≤ i) (h1 : i < (rows.length : Int)) (hs : s.size ≠ sz) :
    Calls Try.prog 20 #[.pointer (some ⟨u, 0, none⟩), .int .i64 i, .string s] w fun e w' => e = .returned (.int .i64 4) ∧ w = w' := by
  obtain ⟨p, c, rfl⟩ := owns_val h.own
  have h2 : w.cell? ⟨u, 2, none⟩ = some (.slice p rows.length c) := cell_of h.head rfl
  have h3 : w.cell? ⟨u, 0, none⟩ = some (.int .i64 sz) := cell_of h.head rfl
  have hs' : ((s.size : Int) != (sz : Int)) = true := by simp; omega
  clear h hs
  go_enter Try.func20, Try.ntmps20
  go_wp2
  go_ret
  exact ⟨rfl, rfl⟩

set_option maxHeartbeats 400000 in
theorem ref_chunks {u sz cap : Nat} {Lv : Value} {rows : List (List UInt8)} (w : World) (h : RC w u sz cap Lv rows) :
    Calls Try.prog 22 #[.pointer (some ⟨u, 0, none⟩)] w fun e w' => e = .returned (.int .i64 (((rows.length : Int) + 15) / 16)) ∧ w = w' := by
  obtain ⟨p, c, rfl⟩ := owns_val h.own
  have h2 : w.cell? ⟨u, 2, none⟩ = some (.slice p rows.length c) := cell_of h.head rfl
  have hnl := h.n_le
  have hcap := h.cap_le
  have hn : rows.length ≤ 65536 := by omega
  clear h hnl
  go_enter Try.func22, Try.ntmps22
  go_wp2
  go_ret
  exact ⟨rfl, rfl⟩

/-- An owned row's text at a place. -/
theorem owns_row {w : World} {base : Nat} {e : TypeId} {v : Value} {A : List (List UInt8)} (h : w.ownsRow base e 1 v A.length (A.map rowS)) {k : Nat} (hk : k < A.length) :
    ∃ g c, v = .slice (some ⟨g, 0, none⟩) A.length c ∧ w.cell? ⟨g, k, none⟩ = some (rowS (A[k]'hk)) := by
  obtain ⟨p, c, rfl⟩ := owns_val h
  obtain ⟨g, rfl⟩ := owns_some h (by omega)
  exact ⟨g, c, rfl, (owns_cell h hk).trans (by simp [hk])⟩

set_option maxHeartbeats 1000000 in
theorem rows_same {b1 b2 : Nat} {va vb : Value} {A B : List (List UInt8)} (w : World) (hA : w.ownsRow b1 9 1 va A.length (A.map rowS)) (hB : w.ownsRow b2 9 1 vb B.length (B.map rowS)) (hl : A.length ≤ 65536) (he : A = B) :
    Calls Try.prog 17 #[va, vb] w fun e w' => e = .returned (.bool true) ∧ ∃ n, w' = w.drewN n := by
  subst he
  obtain ⟨pa, ca, rfl⟩ := owns_val hA
  obtain ⟨pb, cb, rfl⟩ := owns_val hB
  have HA := hid hA; have HB := hid hB
  clear hA hB
  go_enter Try.func17, Try.ntmps17
  go_wp2
  go_loopw [5] (fun i wr => ∃ k n : Nat, k ≤ A.length ∧ i = .int .i64 k ∧ wr = w.drewN n) (fun i _ => A.length - (intOf i).toNat)
  case atStart => exact ⟨0, 0, Nat.zero_le _, rfl, rfl⟩
  case round =>
    obtain ⟨k, n, hk, rfl, rfl⟩ := hrel
    by_cases hlt : k < A.length
    · obtain ⟨g, c, e1, h1⟩ := owns_row HA.out hlt
      obtain ⟨g2, c2, e2, h2⟩ := owns_row HB.out hlt
      injection e1 with e1 _ e3
      injection e2 with e2 _ e4
      subst e1; subst e2; subst e3; subst e4
      have hk' : (0 : Int) ≤ (k : Int) ∧ (k : Int) < (A.length : Int) := ⟨by omega, by omega⟩
      generalize A[k] = x at h1 h2
      go_wp2
      refine Plan.wp_region_reads (by kernel_rfl) (by kernel_rfl) ?_
      repeat (go_big_quiet_step (fail))
      refine wpQuiet_nil ?_
      go_wp2
      go_roundw
      case rel => exact ⟨k + 1, n + 1, by omega, by go_num, rfl⟩
      case measure => simp [intOf]; omega
    · go_wp2
      go_ret
      exact ⟨rfl, n, rfl⟩

end Go.Proofs.Ytcdmegaebcjnlaa
