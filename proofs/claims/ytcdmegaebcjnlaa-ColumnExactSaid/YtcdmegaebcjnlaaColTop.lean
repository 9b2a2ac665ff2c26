/- What is proved: the column's functions said of its rows alone (a list of texts), with the blocks that it lies in. -/
import Derived.Test.YtcdmegaebcjnlaaColWalk4
namespace Go.Proofs.Ytcdmegaebcjnlaa
open Go.RowKit Go.Proofs.Heap Go.Proofs.Col

/-- In block b: a column of these rows; it lies in the blocks F. -/
def TC (w : World) (b sz cap : Nat) (rows : List (List UInt8)) (F : List Nat) : Prop :=
  ∃ n v cbs R, CC w b sz cap n v cbs R ∧ 16 * cbs.length < n + 16 ∧ rows = (List.range n).map R ∧ F = foot b v cbs

section
variable {w w' : World} {b sz cap : Nat} {rows : List (List UInt8)} {F : List Nat}
theorem TC.keep (h : TC w b sz cap rows F) (hk : ∀ k ∈ F, w'.heap[k]? = w.heap[k]?) : TC w' b sz cap rows F := by
  obtain ⟨n, v, cbs, R, h1, h2, h3, rfl⟩ := h
  exact ⟨n, v, cbs, R, Col.keep h1 hk, h2, h3, rfl⟩
theorem TC.lt (h : TC w b sz cap rows F) : ∀ k ∈ F, k < w.heap.size := by
  obtain ⟨n, v, cbs, R, h1, h2, h3, rfl⟩ := h
  exact Col.lt h1
theorem TC.mem (h : TC w b sz cap rows F) : b ∈ F := by
  obtain ⟨n, v, cbs, R, h1, h2, h3, rfl⟩ := h
  simp [foot]
theorem TC.keep' {S : Nat → Prop} (h : TC w b sz cap rows F) (hk : Keep S w w') (hS : ∀ k ∈ F, ¬ S k) : TC w' b sz cap rows F :=
  h.keep fun k hf => hk.block k (h.lt k hf) (hS k hf)
theorem TC.le (h : TC w b sz cap rows F) : rows.length ≤ cap ∧ cap ≤ 65536 ∧ sz ≤ 256 := by
  obtain ⟨n, v, cbs, R, h1, h2, h3, rfl⟩ := h
  exact ⟨by rw [h3]; simpa using h1.n_le, h1.cap_le, h1.sz_le⟩
theorem TC.c0 (h : TC w b sz cap rows F) : w.cell? ⟨b, 0, none⟩ = some (.int .i64 sz) := by
  obtain ⟨n, v, cbs, R, h1, h2, h3, rfl⟩ := h; exact CC.c0 h1
theorem TC.c1 (h : TC w b sz cap rows F) : w.cell? ⟨b, 1, none⟩ = some (.int .i64 cap) := by
  obtain ⟨n, v, cbs, R, h1, h2, h3, rfl⟩ := h; exact CC.c1 h1
theorem TC.c2 (h : TC w b sz cap rows F) : w.cell? ⟨b, 2, none⟩ = some (.int .i64 rows.length) := by
  obtain ⟨n, v, cbs, R, h1, h2, h3, rfl⟩ := h
  have := CC.c2 h1
  rw [h3]; simpa using this
theorem TC.row_len (h : TC w b sz cap rows F) : ∀ r ∈ rows, r.length = sz := by
  obtain ⟨n, v, cbs, R, h1, h2, h3, rfl⟩ := h
  intro r hr
  rw [h3] at hr
  obtain ⟨i, hi, rfl⟩ := List.mem_map.1 hr
  have := List.mem_range.1 hi
  exact h1.len i (by have := h1.lo; omega)
end

/-- What was there when the call began is as it was, where what may turn is newer. -/
theorem below_keep {B : Nat} {w0 w w' : World} {S : Nat → Prop} (h : Below B w0 w) (hk : Keep S w w') (hS : ∀ k, S k → B ≤ k) (hB : B ≤ w0.heap.size) : Below B w0 w' :=
  h.trans ⟨hk.os, hk.tape, hk.output, hk.size, fun k hlt => hk.block k (by have := h.size; omega) (fun s => by have := hS k s; omega)⟩

theorem range_upd (R : Nat → List UInt8) (n i : Nat) (row : List UInt8) : (List.range n).map (upd R i row) = ((List.range n).map R).set i row := by
  apply List.ext_getElem?
  intro j
  simp only [List.getElem?_map, List.getElem?_set, List.length_map, List.length_range]
  by_cases h : i = j
  · subst h
    by_cases hi : i < n
    · simp [hi, upd]
    · simp [hi]
  · rw [if_neg h]
    by_cases hj : j < n
    · simp [hj, upd, Ne.symm h]
    · simp [hj]

theorem range_zeroed {R : Nat → List UInt8} {n k sz : Nat} (h : n ≤ 16 * k) : (List.range n).map (zeroed R k sz) = (List.range n).map R := by
  apply List.map_congr_left
  intro i hi
  have := List.mem_range.1 hi
  simp [zeroed]; omega

theorem tc_new (sz cap : Nat) (w : World) (h1 : sz ≤ 256) (h2 : 1 ≤ cap) (h3 : cap ≤ 65536) :
    Calls Try.prog 7 #[.int .i64 sz, .int .i64 cap] w fun e w' => e = .returned (.pointer (some ⟨w.heap.size, 0, none⟩)) ∧ TC w' w.heap.size sz cap [] [w.heap.size] ∧ Below w.heap.size w w' := by
  refine (col_new sz cap w (by omega) (by omega) (by omega) (by omega)).mono ?_
  rintro e w' ⟨rfl, rfl⟩
  exact ⟨rfl, ⟨0, _, [], fun _ => [], col_made sz cap w h1 h3 _, by simp, rfl, by simp [foot, Value.ownBlock]⟩, (Below.refl _ w).alloc (Nat.le_refl _) _⟩

/-- What an operation leaves that may lay new blocks. -/
def TCto (w w' : World) (b sz cap : Nat) (F : List Nat) (rows : List (List UInt8)) : Prop :=
  ∃ F', TC w' b sz cap rows F' ∧ Keep (fun k => k ∈ F) w w' ∧ ∀ k ∈ F', k ∈ F ∨ w.heap.size ≤ k

theorem tc_append {b sz cap : Nat} {rows : List (List UInt8)} {F : List Nat} (w : World) (h : TC w b sz cap rows F) (s : ByteArray) (hs : s.size = sz) (hn : rows.length < cap) :
    Calls Try.prog 9 #[.pointer (some ⟨b, 0, none⟩), .string s] w fun e w' => e = .returned (.int .i64 0) ∧ TCto w w' b sz cap F (rows ++ [bytesOf s]) := by
  obtain ⟨n, v, cbs, R, h1, h2, h3, rfl⟩ := h
  have hn' : n < cap := by rw [h3] at hn; simpa using hn
  have hlo := h1.lo
  by_cases hk : n < 16 * cbs.length
  · refine (col_app_room w h1 s hs hn' hk).mono ?_
    rintro e w' ⟨rfl, g1, g2⟩
    refine ⟨rfl, foot b v cbs, ⟨n + 1, v, cbs, _, g1, by omega, ?_, rfl⟩, g2.mono (fun k _ hk => ?_), fun k hk => .inl hk⟩
    · rw [h3, List.range_succ, List.map_append, range_upd]
      congr 1
      · rw [List.set_eq_of_length_le (by simp)]
      · simp [upd]
    · simp only [foot, List.mem_cons, List.mem_append]
      rcases hk with rfl | hk
      · exact .inl rfl
      · exact .inr (.inr hk)
  · obtain rfl : n = 16 * cbs.length := by omega
    refine (col_app_more w h1 s hs hn').mono ?_
    rintro e w' ⟨rfl, v', cb, g1, g2, g3, g4⟩
    refine ⟨rfl, foot b v' (cbs ++ [(cb, [])]), ⟨16 * cbs.length + 1, v', _, _, g1, by simp; omega, ?_, rfl⟩, g2, fun k hk => ?_⟩
    · rw [h3, List.range_succ, List.map_append, range_upd, range_zeroed (Nat.le_refl _)]
      congr 1
      · rw [List.set_eq_of_length_le (by simp)]
      · simp [upd]
    · simp only [foot, List.mem_cons, List.mem_append, Option.mem_toList, List.map_append, List.map_cons, List.map_nil, List.not_mem_nil, or_false] at hk ⊢
      rcases hk with rfl | hk | hk | rfl
      · exact .inl (.inl rfl)
      · rcases g4 k hk with e | e
        · exact .inl (.inr (.inl e))
        · exact .inr e
      · exact .inl (.inr (.inr hk))
      · exact .inr g3

theorem tc_app_form {b sz cap : Nat} {rows : List (List UInt8)} {F : List Nat} (w : World) (h : TC w b sz cap rows F) (s : ByteArray) (hs : s.size ≠ sz) :
    Calls Try.prog 9 #[.pointer (some ⟨b, 0, none⟩), .string s] w fun e w' => e = .returned (.int .i64 4) ∧ w = w' := col_app_form w h.c0 s hs

theorem tc_app_full {b sz cap : Nat} {rows : List (List UInt8)} {F : List Nat} (w : World) (h : TC w b sz cap rows F) (s : ByteArray) (hs : s.size = sz) (hn : rows.length = cap) :
    Calls Try.prog 9 #[.pointer (some ⟨b, 0, none⟩), .string s] w fun e w' => e = .returned (.int .i64 5) ∧ w.drew = w' := by
  obtain ⟨n, v, cbs, R, h1, h2, h3, rfl⟩ := h
  exact col_app_full w h1 s hs (by rw [h3] at hn; simpa using hn)

theorem tc_set {b sz cap : Nat} {rows : List (List UInt8)} {F : List Nat} (w : World) (h : TC w b sz cap rows F) (i : Int) (h0 : 0 ≤ i) (h1 : i < rows.length) (s : ByteArray) (hs : s.size = sz) :
    Calls Try.prog 16 #[.pointer (some ⟨b, 0, none⟩), .int .i64 i, .string s] w fun e w' => e = .returned (.int .i64 0) ∧ TC w' b sz cap (rows.set i.toNat (bytesOf s)) F ∧ Keep (fun k => k ∈ F) w w' := by
  obtain ⟨n, v, cbs, R, g1, g2, g3, rfl⟩ := h
  refine (col_set w g1 i h0 (by rw [g3] at h1; simpa using h1) s hs).mono ?_
  rintro e w' ⟨rfl, k1, k2⟩
  refine ⟨rfl, ⟨n, v, cbs, _, k1, g2, ?_, rfl⟩, k2.mono (fun k _ hk => ?_)⟩
  · rw [g3, range_upd]
  · simp only [foot, List.mem_cons, List.mem_append]; exact .inr (.inr hk)

theorem tc_get {b sz cap : Nat} {rows : List (List UInt8)} {F : List Nat} (w : World) (h : TC w b sz cap rows F) (i : Int) (h0 : 0 ≤ i) (h1 : i < rows.length) :
    Calls Try.prog 11 #[.pointer (some ⟨b, 0, none⟩), .int .i64 i] w fun e w' => e = .returned (.tuple #[rowS (rows.getD i.toNat []), .int .i64 0]) ∧ w.drew = w' := by
  obtain ⟨n, v, cbs, R, g1, g2, g3, rfl⟩ := h
  have hi : i < n := by rw [g3] at h1; simpa using h1
  have := col_get w g1 i h0 hi
  have e : rows.getD i.toNat [] = R i.toNat := by
    have : i.toNat < n := by omega
    rw [g3]; simp [List.getD, this]
  rw [e]; exact this

theorem tc_swap {b sz cap : Nat} {rows : List (List UInt8)} {F : List Nat} (w : World) (h : TC w b sz cap rows F) (i : Int) (m : Nat) (hm : rows.length = m + 1) (h0 : 0 ≤ i) (h1 : i < (m : Int) + 1) :
    Calls Try.prog 12 #[.pointer (some ⟨b, 0, none⟩), .int .i64 i] w fun e w' => e = .returned (.tuple #[.int .i64 m, .int .i64 0]) ∧ TCto w w' b sz cap F ((rows.set i.toNat (rows[m]?.getD [])).take m) := by
  obtain ⟨n, v, cbs, R, g1, g2, g3, rfl⟩ := h
  obtain rfl : n = m + 1 := by rw [g3] at hm; simpa using hm
  refine (col_swap w g1 i h0 h1).mono ?_
  rintro e w' ⟨rfl, v', cbs', k1, k2, k3, k4, k5⟩
  have hlo := g1.lo
  refine ⟨rfl, foot b v' cbs', ⟨m, v', cbs', _, k1, ?_, ?_, rfl⟩, k2.mono (fun k _ hk => ?_), fun k hk => .inl ?_⟩
  · rw [k5]; split <;> omega
  · rw [range_upd, g3]
    have : ((List.range (m + 1)).map R)[m]?.getD [] = R m := by simp
    rw [this, List.range_succ, List.map_append, List.map_cons, List.map_nil]
    apply List.ext_getElem?
    intro j
    simp only [List.getElem?_set, List.getElem?_take, List.length_append, List.length_map, List.length_range, List.length_cons, List.length_nil]
    by_cases hj : j < m
    · rw [if_pos hj, List.getElem?_append_left (by simpa using hj)]
      by_cases hij : i.toNat = j
      · rw [if_pos hij, if_pos hij, if_pos (by omega), if_pos (by omega)]
      · rw [if_neg hij, if_neg hij]
    · rw [if_neg hj]
      by_cases hij : i.toNat = j
      · rw [if_pos hij, if_neg (by omega)]
      · rw [if_neg hij, List.getElem?_eq_none (by simp; omega)]
  · simp only [foot, List.mem_cons, List.mem_append]
    rcases hk with rfl | hk
    · exact .inl rfl
    · exact .inr (.inr hk)
  · simp only [foot, List.mem_cons, List.mem_append, Option.mem_toList] at hk ⊢
    rcases hk with rfl | hk | hk
    · exact .inl rfl
    · rw [k3] at hk; exact .inr (.inl hk)
    · rw [k4, List.map_take] at hk
      exact .inr (.inr (List.mem_of_mem_take hk))

theorem tc_swap_out {b sz cap : Nat} {rows : List (List UInt8)} {F : List Nat} (w : World) (h : TC w b sz cap rows F) (i : Int) (h0 : i < 0 ∨ rows.length ≤ i) :
    Calls Try.prog 12 #[.pointer (some ⟨b, 0, none⟩), .int .i64 i] w fun e w' => e = .returned (.tuple #[.int .i64 0, .int .i64 3]) ∧ w = w' := col_swap_out b _ i w h.c2 h0

theorem tc_chunks {b sz cap : Nat} {rows : List (List UInt8)} {F : List Nat} (w : World) (h : TC w b sz cap rows F) :
    Calls Try.prog 13 #[.pointer (some ⟨b, 0, none⟩)] w fun e w' => e = .returned (.int .i64 (((rows.length : Int) + 15) / 16)) ∧ w = w' := by
  obtain ⟨n, v, cbs, R, g1, g2, g3, rfl⟩ := h
  obtain ⟨vp, kc, hv⟩ := g1.val
  have hc3 := CC.c3 g1
  rw [hv] at hc3
  have hlo := g1.lo
  have : (cbs.length : Int) = ((rows.length : Int) + 15) / 16 := by rw [g3]; simp; omega
  rw [← this]
  exact col_chunks b cbs.length kc vp w hc3

theorem tc_rows {b sz cap : Nat} {rows : List (List UInt8)} {F : List Nat} (w : World) (h : TC w b sz cap rows F) :
    Calls Try.prog 14 #[.pointer (some ⟨b, 0, none⟩)] w fun e w' => ∃ out, e = .returned out ∧ w'.ownsRow w.heap.size 9 1 out rows.length (rows.map rowS) ∧ Below w.heap.size w w' := by
  obtain ⟨n, v, cbs, R, g1, g2, g3, rfl⟩ := h
  refine (col_rows w g1).mono ?_
  rintro e w' ⟨out, rfl, h1, h2⟩
  refine ⟨out, rfl, ?_, h2⟩
  have e1 : rows.length = n := by rw [g3]; simp
  have e2 : rows.map rowS = rowsV n R := by rw [g3]; simp [rowsV]
  rw [e1, e2]; exact h1

theorem tc_clone {b sz cap : Nat} {rows : List (List UInt8)} {F : List Nat} (w : World) (h : TC w b sz cap rows F) :
    Calls Try.prog 15 #[.pointer (some ⟨b, 0, none⟩)] w fun e w' => e = .returned (.pointer (some ⟨w.heap.size, 0, none⟩)) ∧ ∃ F', TC w' w.heap.size sz cap rows F' ∧ Below w.heap.size w w' ∧ ∀ k ∈ F', w.heap.size ≤ k := by
  obtain ⟨n, v, cbs, R, g1, g2, g3, rfl⟩ := h
  refine (col_clone w g1).mono ?_
  rintro e w' ⟨rfl, v', cs, hh⟩
  refine ⟨rfl, foot w.heap.size v' cs, ⟨n, v', cs, R, Half.col g1 hh, by rw [hh.len]; exact g2, g3, rfl⟩, hh.below, fun k hk => ?_⟩
  simp only [foot, List.mem_cons, List.mem_append, Option.mem_toList] at hk
  rcases hk with rfl | hk | hk
  · exact Nat.le_refl _
  · exact (hh.own.lt k hk).1
  · obtain ⟨c, hc, rfl⟩ := List.mem_map.1 hk
    obtain ⟨j, hj⟩ := List.getElem?_of_mem hc
    exact (hh.chunk j c hj).2.1

end Go.Proofs.Ytcdmegaebcjnlaa
