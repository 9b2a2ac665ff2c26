/- What is proved: what the column's functions do to a column in memory: New, Len, Cap, Size, Chunks, check, cell, Get. -/
import Derived.Test.YtcdmegaebcjnlaaRows
import Derived.Test.YtcdmegaebcjnlaaRegion
import Derived.Test.YtcdmegaebcjnlaaColBase
namespace Go.Proofs.Ytcdmegaebcjnlaa
open Go.RowKit Go.Proofs.Heap Go.Proofs.Col

abbrev CC (w : World) (b sz cap n : Nat) (v : Value) (cbs : List Chunk) (R : Nat → List UInt8) : Prop := Col 56 29 5 w b sz cap n v cbs R

section
variable {w : World} {b sz cap n : Nat} {v : Value} {cbs : List Chunk} {R : Nat → List UInt8}
theorem CC.c0 (h : CC w b sz cap n v cbs R) : w.cell? ⟨b, 0, none⟩ = some (.int .i64 sz) := cell_of h.head rfl
theorem CC.c1 (h : CC w b sz cap n v cbs R) : w.cell? ⟨b, 1, none⟩ = some (.int .i64 cap) := cell_of h.head rfl
theorem CC.c2 (h : CC w b sz cap n v cbs R) : w.cell? ⟨b, 2, none⟩ = some (.int .i64 n) := cell_of h.head rfl
theorem CC.c3 (h : CC w b sz cap n v cbs R) : w.cell? ⟨b, 3, none⟩ = some v := cell_of h.head rfl
end

set_option maxHeartbeats 400000 in
theorem col_new (sz cap : Int) (w : World) (h0 : 0 ≤ sz) (h1 : sz ≤ 256) (h2 : 1 ≤ cap) (h3 : cap ≤ 65536) :
    Calls Try.prog 7 #[.int .i64 sz, .int .i64 cap] w fun e w' => e = .returned (.pointer (some ⟨w.heap.size, 0, none⟩)) ∧
      w.alloc (.cells #[.int .i64 sz, .int .i64 cap, .int .i64 0, .slice none 0 0] 56) = w' := by
  go_enter Try.func7, Try.ntmps7
  go_wp2
  go_ret
  exact ⟨rfl, rfl⟩

set_option maxHeartbeats 400000 in
theorem col_new_no (sz cap : Int) (w : World) (h : sz < 0 ∨ 256 < sz ∨ cap < 1 ∨ 65536 < cap) :
    Calls Try.prog 7 #[.int .i64 sz, .int .i64 cap] w fun e w' => e = .returned (.pointer none) ∧ w = w' := by
  by_cases a : sz < 0
  · go_enter Try.func7, Try.ntmps7
    go_wp2
    go_ret
    exact ⟨rfl, rfl⟩
  by_cases b : 256 < sz
  · go_enter Try.func7, Try.ntmps7
    go_wp2
    go_ret
    exact ⟨rfl, rfl⟩
  by_cases c : cap < 1
  · go_enter Try.func7, Try.ntmps7
    go_wp2
    go_ret
    exact ⟨rfl, rfl⟩
  have d : 65536 < cap := by omega
  go_enter Try.func7, Try.ntmps7
  go_wp2
  go_ret
  exact ⟨rfl, rfl⟩

/-- A new column. -/
theorem col_made (sz cap : Nat) (w : World) (h1 : sz ≤ 256) (h3 : cap ≤ 65536) (R : Nat → List UInt8) :
    CC (w.alloc (.cells #[.int .i64 (sz : Int), .int .i64 (cap : Int), .int .i64 0, .slice none 0 0] 56)) w.heap.size sz cap 0 (.slice none 0 0) [] R :=
  { head := heap_alloc_new w _
    own := World.ownsRow_nil _ _ _ _
    len := fun i hi => by simp at hi
    chunk := fun j cb hj => by simp at hj
    nd := by simp [Value.ownBlock]
    lo := by simp
    k_le := by simp
    rest_le := by simp
    sz_le := h1
    n_le := by omega
    cap_le := h3 }

set_option maxHeartbeats 400000 in
theorem col_len (b : Nat) (n : Int) (w : World) (h : w.cell? ⟨b, 2, none⟩ = some (.int .i64 n)) :
    Calls Try.prog 8 #[.pointer (some ⟨b, 0, none⟩)] w fun e w' => e = .returned (.int .i64 n) ∧ w = w' := by
  go_enter Try.func8, Try.ntmps8
  go_wp2
  go_ret
  exact ⟨rfl, rfl⟩
set_option maxHeartbeats 400000 in
theorem col_cap (b : Nat) (n : Int) (w : World) (h : w.cell? ⟨b, 1, none⟩ = some (.int .i64 n)) :
    Calls Try.prog 10 #[.pointer (some ⟨b, 0, none⟩)] w fun e w' => e = .returned (.int .i64 n) ∧ w = w' := by
  go_enter Try.func10, Try.ntmps10
  go_wp2
  go_ret
  exact ⟨rfl, rfl⟩
set_option maxHeartbeats 400000 in
theorem col_size (b : Nat) (n : Int) (w : World) (h : w.cell? ⟨b, 0, none⟩ = some (.int .i64 n)) :
    Calls Try.prog 18 #[.pointer (some ⟨b, 0, none⟩)] w fun e w' => e = .returned (.int .i64 n) ∧ w = w' := by
  go_enter Try.func18, Try.ntmps18
  go_wp2
  go_ret
  exact ⟨rfl, rfl⟩
set_option maxHeartbeats 400000 in
theorem col_chunks (b k kc : Nat) (a : Option Addr) (w : World) (h : w.cell? ⟨b, 3, none⟩ = some (.slice a k kc)) :
    Calls Try.prog 13 #[.pointer (some ⟨b, 0, none⟩)] w fun e w' => e = .returned (.int .i64 k) ∧ w = w' := by
  go_enter Try.func13, Try.ntmps13
  go_wp2
  go_ret
  exact ⟨rfl, rfl⟩
set_option maxHeartbeats 400000 in
theorem col_len_nil (w : World) : Calls Try.prog 8 #[.pointer none] w fun e w' => e = .returned (.int .i64 0) ∧ w = w' := by
  go_enter Try.func8, Try.ntmps8
  go_wp2
  go_ret
  exact ⟨rfl, rfl⟩
set_option maxHeartbeats 400000 in
theorem col_cap_nil (w : World) : Calls Try.prog 10 #[.pointer none] w fun e w' => e = .returned (.int .i64 0) ∧ w = w' := by
  go_enter Try.func10, Try.ntmps10
  go_wp2
  go_ret
  exact ⟨rfl, rfl⟩
set_option maxHeartbeats 400000 in
theorem col_size_nil (w : World) : Calls Try.prog 18 #[.pointer none] w fun e w' => e = .returned (.int .i64 0) ∧ w = w' := by
  go_enter Try.func18, Try.ntmps18
  go_wp2
  go_ret
  exact ⟨rfl, rfl⟩
set_option maxHeartbeats 400000 in
theorem col_chunks_nil (w : World) : Calls Try.prog 13 #[.pointer none] w fun e w' => e = .returned (.int .i64 0) ∧ w = w' := by
  go_enter Try.func13, Try.ntmps13
  go_wp2
  go_ret
  exact ⟨rfl, rfl⟩

set_option maxHeartbeats 400000 in
theorem check_ok (b : Nat) (n i : Int) (w : World) (h : w.cell? ⟨b, 2, none⟩ = some (.int .i64 n)) (h0 : 0 ≤ i) (h1 : i < n) :
    Calls Try.prog 24 #[.pointer (some ⟨b, 0, none⟩), .int .i64 i] w fun e w' => e = .returned (.int .i64 0) ∧ w = w' := by
  go_enter Try.func24, Try.ntmps24
  go_wp2
  go_ret
  exact ⟨rfl, rfl⟩

set_option maxHeartbeats 400000 in
theorem check_out (b : Nat) (n i : Int) (w : World) (h : w.cell? ⟨b, 2, none⟩ = some (.int .i64 n)) (h0 : i < 0 ∨ n ≤ i) :
    Calls Try.prog 24 #[.pointer (some ⟨b, 0, none⟩), .int .i64 i] w fun e w' => e = .returned (.int .i64 3) ∧ w = w' := by
  by_cases hi : i < 0
  · go_enter Try.func24, Try.ntmps24
    go_wp2
    go_ret
    exact ⟨rfl, rfl⟩
  · have h1 : n ≤ i := by omega
    go_enter Try.func24, Try.ntmps24
    go_wp2
    go_ret
    exact ⟨rfl, rfl⟩

set_option maxHeartbeats 400000 in
theorem check_nil (i : Int) (w : World) :
    Calls Try.prog 24 #[.pointer none, .int .i64 i] w fun e w' => e = .returned (.int .i64 2) ∧ w = w' := by
  go_enter Try.func24, Try.ntmps24
  go_wp2
  go_ret
  exact ⟨rfl, rfl⟩

theorem mod_mul_bd (i sz : Nat) (hs : sz ≤ 256) : 0 ≤ ((i : Int) % 16 * (sz : Int)) ∧ ((i : Int) % 16 * (sz : Int)) ≤ 3840 := by
  have h1 : ((i : Int) % 16 * (sz : Int)) = ((i % 16 * sz : Nat) : Int) := by simp
  have h2 : i % 16 * sz ≤ 15 * 256 := Nat.mul_le_mul (by omega) hs
  rw [h1]; omega

def cellV (cb : Chunk) (sz i : Nat) : Value := .slice (some ⟨cb.1, i % 16 * sz, none⟩) sz (16 * sz + cb.2.length - i % 16 * sz)

theorem cellV_a {cb : Chunk} {sz i : Nat} (h : 16 * sz + cb.2.length = i % 16 * sz) : Value.slice (some ⟨cb.1, 0, none⟩) sz 0 = cellV cb sz i := by
  unfold cellV
  have h0 : sz = 0 := by
    rcases Nat.eq_zero_or_pos sz with h0 | h0
    · exact h0
    · have := Nat.mul_lt_mul_of_lt_of_le (show i % 16 < 16 by omega) (Nat.le_refl sz) h0
      omega
  subst h0
  simp at h
  simp [h]

theorem ret_val {a b : Value} (h : a = b) : Ending.returned a = .returned b := by rw [h]

set_option maxHeartbeats 400000 in
theorem cell_any (b g k kc : Nat) (cb : Chunk) (sz i : Nat) (w : World) (h : w.cell? ⟨b, 0, none⟩ = some (.int .i64 sz)) (hv : w.cell? ⟨b, 3, none⟩ = some (.slice (some ⟨g, 0, none⟩) k kc))
    (hj : i / 16 < k) (hk : k ≤ 65536) (hs : sz ≤ 256) (hc : w.cell? ⟨g, i / 16, none⟩ = some (.slice (some ⟨cb.1, 0, none⟩) (16 * sz) (16 * sz + cb.2.length))) :
    Calls Try.prog 23 #[.pointer (some ⟨b, 0, none⟩), .int .i64 i] w fun e w' => e = .returned (cellV cb sz i) ∧ w.drew = w' := by
  obtain ⟨b1, b2⟩ := mod_mul_bd i sz hs
  have hj' : (i : Int) / 16 < (k : Int) := by omega
  have e3 : ((i : Int) % 16 * (sz : Int) + (sz : Int)) ≤ ((16 * sz + cb.2.length : Nat) : Int) := by
    have h2 : i % 16 * sz ≤ 15 * sz := Nat.mul_le_mul_right _ (by omega)
    have h1 : ((i : Int) % 16 * (sz : Int)) = ((i % 16 * sz : Nat) : Int) := by simp
    rw [h1]; omega
  have e4 : (0 : Int) ≤ (i : Int) / 16 := by omega
  go_enter Try.func23, Try.ntmps23
  go_wp2
  refine Plan.wp_region_reads (by kernel_rfl) (by kernel_rfl) ?_
  repeat (go_big_quiet_step (fail))
  refine wpQuiet_nil ?_
  go_wp2
  all_goals go_ret
  · exact ⟨ret_val (cellV_a ‹_›), rfl⟩
  · exact ⟨rfl, rfl⟩

/-- A row's place. -/
theorem col_cell {b sz cap n : Nat} {v : Value} {cbs : List Chunk} {R : Nat → List UInt8} (w : World) (h : CC w b sz cap n v cbs R) (i : Nat) (hi : i < 16 * cbs.length) :
    ∃ cb, cbs[i / 16]? = some cb ∧ w.heap[cb.1]? = some (Obj.cells (chunkC R (i / 16) cb) 5 (0, 0)) ∧
      Calls Try.prog 23 #[.pointer (some ⟨b, 0, none⟩), .int .i64 i] w fun e w' => e = .returned (cellV cb sz i) ∧ w.drew = w' := by
  obtain ⟨g, kc, cur, cb, rfl, hg, hc, hcb, hh, h1, h2, h3⟩ := Col.at h hi
  have h4 := h.k_le
  have h5 := h.n_le
  have h6 := h.cap_le
  exact ⟨cb, hcb, hh, cell_any b g cbs.length kc cb sz i w (CC.c0 h) (CC.c3 h) (by omega) (by omega) h.sz_le (cell_of hg hc)⟩

/-- A row, as a text. -/
def mkS (l : List UInt8) : ByteArray := ⟨l.toArray⟩
abbrev rowS (l : List UInt8) : Value := .string (mkS l)

theorem run_row {w : World} (cb : Chunk) (sz i : Nat) (C : List UInt8) (hC : C.length = 16 * sz) (t : TypeId) (h : w.heap[cb.1]? = some (Obj.cells (C.map byteV ++ cb.2).toArray t (0, 0))) :
    (convert 29 9 (cellV cb sz i)).run Try.prog w = .ok (rowS ((C.drop (i % 16 * sz)).take sz)) w := by
  have hlen : ((C.drop (i % 16 * sz)).take sz).length = sz := by
    have h2 : i % 16 * sz ≤ 15 * sz := Nat.mul_le_mul_right _ (by omega)
    simp [hC]; omega
  refine run_bytes_string w _ _ 5 Try.underlying29 Try.underlying5 Try.underlying9 cb.1 _ sz _ _ hlen (fun j x hx => cell_of h ?_)
  rw [List.getElem?_take] at hx
  split at hx
  · rw [List.getElem?_drop] at hx
    obtain ⟨hlt, hx⟩ := List.getElem?_eq_some_iff.1 hx
    simp [List.getElem?_append_left, hlt, hx]
  · cases hx

/-- 'Get' at a place that there is. -/
theorem col_get {b sz cap n : Nat} {v : Value} {cbs : List Chunk} {R : Nat → List UInt8} (w : World) (h : CC w b sz cap n v cbs R) (i : Int) (h0 : 0 ≤ i) (h1 : i < n) :
    Calls Try.prog 11 #[.pointer (some ⟨b, 0, none⟩), .int .i64 i] w fun e w' => e = .returned (.tuple #[rowS (R i.toNat), .int .i64 0]) ∧ w.drew = w' := by
  obtain ⟨k, rfl⟩ := Int.eq_ofNat_of_zero_le h0
  have hlo := h.lo
  obtain ⟨cb, hcb, hh, hc⟩ := col_cell w h k (by omega)
  have hrow := chunk_row (sz := sz) (R := R) (i := k) (fun j hj => h.len j (by omega))
  have hcl := chunk_len (sz := sz) (R := R) (j := k / 16) (fun j hj => h.len j (by omega))
  have hrun := run_row (w := w.drew) cb sz k _ hcl _ hh
  rw [hrow] at hrun
  have hck := check_ok b n k w (CC.c2 h) h0 h1
  have H1 := hid hc; have H2 := hid hck
  clear hc hck hrow hcl hh hcb
  go_enter Try.func11, Try.ntmps11
  go_wp2_with (first
    | (go_at_call 24; refine H2.out.mono ?_; rintro e w' ⟨rfl, rfl⟩)
    | (go_at_call 23; refine H1.out.mono ?_; rintro e w' ⟨rfl, rfl⟩))
  go_ret2
  exact ⟨rfl, rfl⟩

set_option maxHeartbeats 400000 in
theorem col_get_out (b : Nat) (n i : Int) (w : World) (h : w.cell? ⟨b, 2, none⟩ = some (.int .i64 n)) (h0 : i < 0 ∨ n ≤ i) :
    Calls Try.prog 11 #[.pointer (some ⟨b, 0, none⟩), .int .i64 i] w fun e w' => e = .returned (.tuple #[.string ByteArray.empty, .int .i64 3]) ∧ w = w' := by
  have H2 := hid (check_out b n i w h h0)
  clear h h0
  go_enter Try.func11, Try.ntmps11
  go_wp2_with (first
    | (go_at_call 24; refine H2.out.mono ?_; rintro e w' ⟨rfl, rfl⟩))
  go_ret2
  exact ⟨rfl, rfl⟩

set_option maxHeartbeats 400000 in
theorem col_get_nil (i : Int) (w : World) :
    Calls Try.prog 11 #[.pointer none, .int .i64 i] w fun e w' => e = .returned (.tuple #[.string ByteArray.empty, .int .i64 2]) ∧ w = w' := by
  have H2 := hid (check_nil i w)
  go_enter Try.func11, Try.ntmps11
  go_wp2_with (first
    | (go_at_call 24; refine H2.out.mono ?_; rintro e w' ⟨rfl, rfl⟩))
  go_ret2
  exact ⟨rfl, rfl⟩
end Go.Proofs.Ytcdmegaebcjnlaa
