/- What is proved: what the column's functions do to a column in memory: Swap, Rows, Clone. -/
import Derived.Test.YtcdmegaebcjnlaaColWalk2
import Derived.Lib.SliceRun
namespace Go.Proofs.Ytcdmegaebcjnlaa
open Go.RowKit Go.Proofs.Heap Go.Proofs.Col

theorem info_str : (Try.prog.info? 9).map (fun i => (i.zero, i.size, i.bytes)) = some (some (.string ByteArray.empty), 1, 16) := by kernel_rfl

def rowsV (n : Nat) (R : Nat → List UInt8) : List Value := (List.range n).map fun i => rowS (R i)
theorem rowsV_succ (n : Nat) (R : Nat → List UInt8) : rowsV (n + 1) R = rowsV n R ++ [rowS (R n)] := by simp [rowsV, List.range_succ]
theorem rowsV_len (n : Nat) (R : Nat → List UInt8) : (rowsV n R).length = n := by simp [rowsV]
theorem rowsV_one (n : Nat) (R : Nat → List UInt8) : ∀ u ∈ rowsV n R, u.oneCell' = true := by
  intro u hu
  obtain ⟨i, _, rfl⟩ := List.mem_map.1 hu
  rfl

/-- A place of a column and its bytes in one: for each world. -/
theorem row_at {b sz cap n : Nat} {v : Value} {cbs : List Chunk} {R : Nat → List UInt8} (w : World) (h : CC w b sz cap n v cbs R) (i : Nat) (hi : i < 16 * cbs.length) :
    ∃ cb, Calls Try.prog 23 #[.pointer (some ⟨b, 0, none⟩), .int .i64 i] w (fun e w' => e = .returned (cellV cb sz i) ∧ w.drew = w') ∧
      ∀ w', CC w' b sz cap n v cbs R → (convert 29 9 (cellV cb sz i)).run Try.prog w' = .ok (rowS (R i)) w' := by
  obtain ⟨cb, hcb, hh, hc⟩ := col_cell w h i hi
  refine ⟨cb, hc, fun w' h' => ?_⟩
  have hrow := chunk_row (sz := sz) (R := R) (i := i) (fun j hj => h.len j (by omega))
  have hcl := chunk_len (sz := sz) (R := R) (j := i / 16) (fun j hj => h.len j (by omega))
  have hrun := run_row (w := w') cb sz i _ hcl _ (h'.chunk _ _ hcb)
  rwa [hrow] at hrun

set_option maxHeartbeats 1000000 in
theorem col_rows {b sz cap n : Nat} {v : Value} {cbs : List Chunk} {R : Nat → List UInt8} (w : World) (h : CC w b sz cap n v cbs R) :
    Calls Try.prog 14 #[.pointer (some ⟨b, 0, none⟩)] w fun e w' => ∃ out, e = .returned out ∧ w'.ownsRow w.heap.size 9 1 out n (rowsV n R) ∧ Below w.heap.size w w' := by
  obtain ⟨i0, hi0, hz0, hz1, hz2⟩ := info_parts info_str
  have hn : n ≤ 65536 := by have := h.n_le; have := h.cap_le; omega
  have hl := col_len b n w (CC.c2 h)
  have HC := hid h; have HL := hid hl
  clear h hl
  go_enter Try.func14, Try.ntmps14
  go_wp2_with (first
    | (go_at_call 8; refine HL.out.mono ?_; rintro e w' ⟨rfl, rfl⟩))
  go_loopw [3, 7] (fun out i wr => ∃ k : Nat, k ≤ n ∧ i = .int .i64 k ∧ wr.ownsRow w.heap.size 9 1 out k (rowsV k R) ∧ Below w.heap.size w wr) (fun _ i _ => n - (intOf i).toNat)
  case atStart => exact ⟨0, Nat.zero_le _, rfl, World.ownsRow_nil _ _ _ _, Below.refl _ _⟩
  case round =>
    obtain ⟨k, hk, rfl, hown, hb⟩ := hrel
    by_cases hlt : k < n
    · have hC : CC wr b sz cap n v cbs R := HC.out.keep fun j hj => hb.block j (HC.out.lt j hj)
      obtain ⟨cb, hc, hcv⟩ := row_at wr hC k (by have := hC.lo; omega)
      have hcv' : ∀ W, (∀ j, j < w.heap.size → W.heap[j]? = w.heap[j]?) → (convert 29 9 (cellV cb sz k)).run Try.prog W = .ok (rowS (R k)) W := fun W hW => hcv W (HC.out.keep fun j hj => hW j (HC.out.lt j hj))
      have hcd : (convert 29 9 (cellV cb sz k)).run Try.prog wr.drew = .ok (rowS (R k)) wr.drew := hcv' _ fun j hj => hb.block j hj
      have hs := hb.size
      have H1 := hid hc; have HO := hid hown; have HB := hid hb
      clear hc hcv hcv' hC hown hb
      go_wp2_with (first
        | (go_at_call 23; refine H1.out.mono ?_; rintro e w' ⟨rfl, rfl⟩)
        | (at_builtin; refine wpList_append_rd rfl _ _ _ rfl w.heap.size _ i0 _ 1 16 Try.underlying36 hi0 hz0 hz1 hz2 rfl (by decide) _ k _ (by rfl) (HO.out.alloc _) _ 1 [rowS (R k)] (by rfl) (rd_block (heap_alloc_new wr.drew _) (by simp) (by simp [rowS, Value.oneCell'])) (by unfold maxLen; omega) (by omega) (by simp; omega) ?_; intro v' w1 hown1 hgrow1 hat1 _))
      have hgk : Below w.heap.size w w1 := (HB.out.drew.alloc (by simp; omega) _).grown hgrow1 (by simp; omega) (fun j hj => (HO.out.lt j hj).1)
      go_roundw
      case rel => exact ⟨k + 1, by omega, by go_num, by rw [rowsV_succ]; exact hown1, hgk⟩
      case measure => simp [intOf]; omega
    · obtain rfl : k = n := by omega
      go_wp2
      go_ret
      exact ⟨_, rfl, hown, hb⟩

/-- 'copy(c.cell(i), c.cell(j))': its run. -/
theorem run_copy_cells2 {w : World} {b sz cap n : Nat} {v : Value} {cbs : List Chunk} {R : Nat → List UInt8} (h : CC w b sz cap n v cbs R) (i j : Nat) (cb cb2 : Chunk) (hi : i < 16 * cbs.length) (hcb : cbs[i / 16]? = some cb)
    (hj : j < 16 * cbs.length) (hcb2 : cbs[j / 16]? = some cb2) :
    (Builtin.copy_ #[29, 29] 3 #[cellV cb sz i, cellV cb2 sz j]).run Try.prog w = .ok (goInt sz) (w.setRow cb.1 (chunkC (upd R i (R j)) (i / 16) cb)) := by
  have hcl := chunk_len (sz := sz) (R := R) (j := i / 16) (fun j hj => h.len j (by omega))
  have h2 : i % 16 * sz ≤ 15 * sz := Nat.mul_le_mul_right _ (by omega)
  have hrow := chunk_row (sz := sz) (R := R) (i := j) (fun j hj => h.len j (by omega))
  have hcl2 := chunk_len (sz := sz) (R := R) (j := j / 16) (fun j hj => h.len j (by omega))
  have hRj := h.len j hj
  have hsrc : ∀ k v, ((R j).map byteV)[k]? = some v → w.cell? ((⟨cb2.1, j % 16 * sz, none⟩ : Addr).add k) = some v := by
    intro k v hk
    have hadd : (⟨cb2.1, j % 16 * sz, none⟩ : Addr).add k = ⟨cb2.1, j % 16 * sz + k, none⟩ := by unfold Addr.add; split <;> simp_all
    rw [hadd]
    refine cell_of (h.chunk _ _ hcb2) ?_
    have hkl := (List.getElem?_eq_some_iff.1 hk).1
    simp only [List.length_map] at hkl
    have h3 : j % 16 * sz ≤ 15 * sz := Nat.mul_le_mul_right _ (by omega)
    rw [← hrow, List.getElem?_map, List.getElem?_take, if_pos (by omega), List.getElem?_drop] at hk
    unfold chunkC
    rw [List.getElem?_toArray, List.getElem?_append_left (by simp [hcl2]; omega), List.getElem?_map]
    exact hk
  have hrun := run_copy_row (P := Try.prog) w 29 29 3 5 cb.1 (i % 16 * sz) sz (16 * sz + cb.2.length - i % 16 * sz) ⟨cb2.1, j % 16 * sz, none⟩ sz (16 * sz + cb2.2.length - j % 16 * sz) _ _ ((R j).map byteV)
    Try.underlying29 size_u8 (h.chunk _ _ hcb) (by simp [hRj]) hsrc (by simp [chunkC, hcl, hRj]; omega) (byteV_one _)
  have hu := chunk_upd (sz := sz) (R := R) (i := i) (row := R j) (fun j hj => h.len j (by omega))
  unfold cellV
  rw [hrun]
  simp only [List.length_map, hRj]
  congr 2
  unfold chunkC
  rw [← hu]
  simp only [List.map_append, List.map_take, List.map_drop]
  have h3 : i % 16 * sz ≤ ((chunkOf R (i / 16)).map byteV).length := by simp [hcl]; omega
  have h4 : i % 16 * sz + sz ≤ ((chunkOf R (i / 16)).map byteV).length := by simp [hcl]; omega
  rw [List.take_append_of_le_length h3, List.drop_append_of_le_length h4]
  simp only [List.append_assoc]

/-- What a swap leaves: the last chunk goes with its last row. -/
def Swapped (w w' : World) (b sz cap n : Nat) (v : Value) (cbs : List Chunk) (R : Nat → List UInt8) (i : Nat) : Prop :=
  ∃ v' cbs', CC w' b sz cap n v' cbs' (upd R i (R n)) ∧ Keep (fun k => k = b ∨ k ∈ cbs.map (·.1)) w w' ∧ v'.ownBlock = v.ownBlock ∧ cbs' = cbs.take cbs'.length ∧ cbs'.length = if n % 16 = 0 then cbs.length - 1 else cbs.length

theorem Swapped.drew {w w' : World} {b sz cap n : Nat} {v : Value} {cbs : List Chunk} {R : Nat → List UInt8} {i : Nat} (h : Swapped w w' b sz cap n v cbs R i) : Swapped w w'.drew b sz cap n v cbs R i := by
  obtain ⟨v', cbs', h1, h2, h3⟩ := h
  exact ⟨v', cbs', h1.keep fun _ _ => rfl, h2.drew, h3⟩

theorem ite_same {c : Prop} [Decidable c] {α : Type} (x : α) : (if c then x else x) = x := by split <;> rfl

set_option maxHeartbeats 1000000 in
theorem col_swap {b sz cap n : Nat} {v : Value} {cbs : List Chunk} {R : Nat → List UInt8} (w : World) (h : CC w b sz cap (n + 1) v cbs R) (i : Int) (h0 : 0 ≤ i) (h1 : i < (n : Int) + 1) :
    Calls Try.prog 12 #[.pointer (some ⟨b, 0, none⟩), .int .i64 i] w fun e w' => e = .returned (.tuple #[.int .i64 n, .int .i64 0]) ∧ Swapped w w' b sz cap n v cbs R i.toNat := by
  obtain ⟨k, rfl⟩ := Int.eq_ofNat_of_zero_le h0
  rw [Int.toNat_natCast]
  have hlo := h.lo
  have hk : k < 16 * cbs.length := by omega
  have hn : n < 16 * cbs.length := by omega
  have hnn : n + 1 ≤ 65536 := by have := h.n_le; have := h.cap_le; omega
  obtain ⟨vp, kc, hv⟩ := h.val
  obtain ⟨cb, hcb, _, hc⟩ := col_cell w h k hk
  obtain ⟨cb2, hcb2, _, hc2⟩ := col_cell w.drew (h.keep fun _ _ => rfl) n hn
  have hrun := run_copy_cells2 (w := w.drew.drew) (h.keep fun _ _ => rfl) k n cb cb2 hk hcb hn hcb2
  have hset := Col.set (w := w.drew.drew) (h.keep fun _ _ => rfl) (i := k) hcb (row := R n) (h.len n hn)
  have hkeep : Keep (fun k => k = b ∨ k ∈ cbs.map (·.1)) w (w.drew.drew.setRow cb.1 (chunkC (upd R k (R n)) (k / 16) cb)) := (Keep.refl _ w).drew.drew.setRow (Or.inr (mem_blocks (List.mem_of_getElem? hcb))) _
  generalize w.drew.drew.setRow cb.1 (chunkC (upd R k (R n)) (k / 16) cb) = W at hrun hset hkeep
  have hck := check_ok b ((n : Int) + 1) k w (by have := CC.c2 h; simpa using this) h0 (by omega)
  have hn2 : w.cell? ⟨b, 2, none⟩ = some (.int .i64 ((n : Int) + 1)) := by have := CC.c2 h; simpa using this
  have hW2 : W.cell? ⟨b, 2, none⟩ = some (.int .i64 ((n : Int) + 1)) := by have := CC.c2 hset; simpa using this
  have hWf : W.frozen? ⟨b, 2, none⟩ = false := free_of hset.head 2
  have hcnt : CC (W.setCell ⟨b, 2, none⟩ (.int .i64 (n : Int))) b sz cap n v cbs (upd R k (R n)) := by
    refine Col.count hset (by omega) (by have := h.n_le; omega) ?_ (fun k hk => hsc_ne _ hk)
    rw [hsc_same hset.head]; rfl
  have hkeep2 : Keep (fun k => k = b ∨ k ∈ cbs.map (·.1)) w (W.setCell ⟨b, 2, none⟩ (.int .i64 (n : Int))) := hkeep.setCell (Or.inl rfl) _
  generalize hW' : W.setCell ⟨b, 2, none⟩ (.int .i64 (n : Int)) = W' at hcnt hkeep2
  have hW3 : W'.cell? ⟨b, 3, none⟩ = some (.slice vp cbs.length kc) := by rw [← hv]; exact CC.c3 hcnt
  have hW3f : W'.frozen? ⟨b, 3, none⟩ = false := free_of hcnt.head 3
  have hln : (n : Int) + 1 - 1 = n := by omega
  by_cases hm : n % 16 = 0
  · obtain ⟨k', hk'⟩ : ∃ k', cbs.length = k' + 1 := ⟨cbs.length - 1, by omega⟩
    have hfin : CC (W'.setCell ⟨b, 3, none⟩ (.slice vp k' kc)) b sz cap n (.slice vp k' kc) (cbs.take k') (upd R k (R n)) := by
      refine Col.less hcnt (by rw [hv, hk']) hk' (by omega) ?_ (fun k hk => hsc_ne _ hk)
      rw [hsc_same hcnt.head]; rfl
    have hkeep3 : Keep (fun k => k = b ∨ k ∈ cbs.map (·.1)) w (W'.setCell ⟨b, 3, none⟩ (.slice vp k' kc)) := hkeep2.setCell (Or.inl rfl) _
    have hfinal : Swapped w (W'.setCell ⟨b, 3, none⟩ (.slice vp k' kc)) b sz cap n v cbs R k :=
      ⟨_, _, hfin, hkeep3, by rw [hv]; cases vp <;> rfl, by simp, by simp [hm, hk']⟩
    have hm' : ((n : Int) % 16 == 0) = true := by simp; omega
    have hkc : (k' : Int) + 1 - 1 = k' := by omega
    have hk3 : k' ≤ 4096 := by have := h.k_le; omega
    have hkk : k' + 1 ≤ kc := by
      rcases owns_block h.own with ⟨e1, e2, _⟩ | ⟨g, c', cur, e1, _, _, e2, _⟩
      · omega
      · rw [hv] at e1; injection e1 with _ _ e3; omega
    rw [hk'] at hW3
    have H1 := hid hc; have H2 := hid hc2; have H3 := hid hck; have H4 := hid hfinal; have H5 := hid hW'; have H6 := hid hln; have H7 := hid hkc
    clear hc hc2 hck hfinal hcnt hkeep hkeep2 hkeep3 hset hfin hcb hcb2 h hW' hln hkc hm hv hk'
    go_enter Try.func12, Try.ntmps12
    go_wp2_with fail
    refine H3.out.mono ?_; rintro e w' ⟨rfl, rfl⟩
    go_wp2_with fail
    refine H1.out.mono ?_; rintro e w' ⟨rfl, rfl⟩
    go_wp2_with fail
    refine H2.out.mono ?_; rintro e w' ⟨rfl, rfl⟩
    go_wp2
    rw [H5.out]
    refine Plan.wp_region_plan [(false, 0, []), (false, 1, []), (false, 2, []), (false, 3, []), (false, 4, []), (false, 5, []), (false, 6, []), (false, 7, []), (false, 8, []), (false, 9, []), (false, 10, []), (false, 11, []), (false, 12, []), (false, 13, []), (true, 14, [])] (by kernel_rfl) (by kernel_rfl) ?_
    repeat (refine Plan.plan_st rfl ?_; go_big_quiet_step (fail); refine wpQuiet_nil ?_)
    refine Plan.plan_ac rfl ?_
    go_wp2
    refine Plan.planQ_mk Plan.chk_end ?_
    refine Plan.plan_end ?_
    go_wp2
    go_ret2
    exact ⟨rfl, H4.out.drew⟩
  · have hfinal : Swapped w W' b sz cap n v cbs R k := ⟨v, cbs, hcnt, hkeep2, rfl, by simp, by simp [hm]⟩
    have hm' : ((n : Int) % 16 == 0) = false := by simp; omega
    have H1 := hid hc; have H2 := hid hc2; have H3 := hid hck; have H4 := hid hfinal; have H5 := hid hW'; have H6 := hid hln
    clear hc hc2 hck hfinal hcnt hkeep hkeep2 hset hcb hcb2 h hW' hln hm hv
    go_enter Try.func12, Try.ntmps12
    go_wp2_with fail
    refine H3.out.mono ?_; rintro e w' ⟨rfl, rfl⟩
    go_wp2_with fail
    refine H1.out.mono ?_; rintro e w' ⟨rfl, rfl⟩
    go_wp2_with fail
    refine H2.out.mono ?_; rintro e w' ⟨rfl, rfl⟩
    go_wp2
    go_ret2
    rw [H5.out]
    exact ⟨rfl, H4.out⟩


set_option maxHeartbeats 400000 in
theorem col_swap_out (b : Nat) (n i : Int) (w : World) (h : w.cell? ⟨b, 2, none⟩ = some (.int .i64 n)) (h0 : i < 0 ∨ n ≤ i) :
    Calls Try.prog 12 #[.pointer (some ⟨b, 0, none⟩), .int .i64 i] w fun e w' => e = .returned (.tuple #[.int .i64 0, .int .i64 3]) ∧ w = w' := by
  have H2 := hid (check_out b n i w h h0)
  clear h h0
  go_enter Try.func12, Try.ntmps12
  go_wp2_with (first
    | (go_at_call 24; refine H2.out.mono ?_; rintro e w' ⟨rfl, rfl⟩))
  go_ret2
  exact ⟨rfl, rfl⟩
set_option maxHeartbeats 400000 in
theorem col_swap_nil (i : Int) (w : World) :
    Calls Try.prog 12 #[.pointer none, .int .i64 i] w fun e w' => e = .returned (.tuple #[.int .i64 0, .int .i64 2]) ∧ w = w' := by
  have H2 := hid (check_nil i w)
  go_enter Try.func12, Try.ntmps12
  go_wp2_with (first
    | (go_at_call 24; refine H2.out.mono ?_; rintro e w' ⟨rfl, rfl⟩))
  go_ret2
  exact ⟨rfl, rfl⟩
set_option maxHeartbeats 400000 in
theorem col_set_out (b : Nat) (n i : Int) (s : ByteArray) (w : World) (h : w.cell? ⟨b, 2, none⟩ = some (.int .i64 n)) (h0 : i < 0 ∨ n ≤ i) :
    Calls Try.prog 16 #[.pointer (some ⟨b, 0, none⟩), .int .i64 i, .string s] w fun e w' => e = .returned (.int .i64 3) ∧ w = w' := by
  have H2 := hid (check_out b n i w h h0)
  clear h h0
  go_enter Try.func16, Try.ntmps16
  go_wp2_with (first
    | (go_at_call 24; refine H2.out.mono ?_; rintro e w' ⟨rfl, rfl⟩))
  go_ret
  exact ⟨rfl, rfl⟩
set_option maxHeartbeats 400000 in
theorem col_set_nil (i : Int) (s : ByteArray) (w : World) :
    Calls Try.prog 16 #[.pointer none, .int .i64 i, .string s] w fun e w' => e = .returned (.int .i64 2) ∧ w = w' := by
  have H2 := hid (check_nil i w)
  go_enter Try.func16, Try.ntmps16
  go_wp2_with (first
    | (go_at_call 24; refine H2.out.mono ?_; rintro e w' ⟨rfl, rfl⟩))
  go_ret
  exact ⟨rfl, rfl⟩
set_option maxHeartbeats 400000 in
theorem col_set_form (b sz : Nat) (n i : Int) (s : ByteArray) (w : World) (h : w.cell? ⟨b, 2, none⟩ = some (.int .i64 n)) (hz : w.cell? ⟨b, 0, none⟩ = some (.int .i64 sz)) (h0 : 0 ≤ i) (h1 : i < n) (hs : s.size ≠ sz) :
    Calls Try.prog 16 #[.pointer (some ⟨b, 0, none⟩), .int .i64 i, .string s] w fun e w' => e = .returned (.int .i64 4) ∧ w = w' := by
  have H2 := hid (check_ok b n i w h h0 h1)
  have hs' : ((s.size : Int) != (sz : Int)) = true := by simp; omega
  clear h h0 h1 hs
  go_enter Try.func16, Try.ntmps16
  go_wp2_with (first
    | (go_at_call 24; refine H2.out.mono ?_; rintro e w' ⟨rfl, rfl⟩))
  go_ret
  exact ⟨rfl, rfl⟩
set_option maxHeartbeats 400000 in
theorem col_rows_nil (w : World) : Calls Try.prog 14 #[.pointer none] w fun e w' => e = .returned (.slice none 0 0) ∧ w = w' := by
  have H2 := hid (col_len_nil w)
  go_enter Try.func14, Try.ntmps14
  go_wp2_with (first
    | (go_at_call 8; refine H2.out.mono ?_; rintro e w' ⟨rfl, rfl⟩))
  refine wp_loop_rounds 1 ?_
  rw [rounds_succ]
  go_wp2
  go_ret
  exact ⟨rfl, rfl⟩
set_option maxHeartbeats 400000 in
theorem col_clone_nil (w : World) : Calls Try.prog 15 #[.pointer none] w fun e w' => e = .returned (.pointer none) ∧ w = w' := by
  go_enter Try.func15, Try.ntmps15
  go_wp2
  go_ret
  exact ⟨rfl, rfl⟩

/-- slices.Clone of bytes that are there. -/
theorem clone_bytes (w : World) (v : Value) (m : Nat) (xs : List Value) (hv : v ≠ .slice none 0 0) (hr : Rd w 1 v m xs) (hm : m ≤ 65536) :
    Calls Try.prog 25 #[v] w fun e w' => ∃ v', e = .returned v' ∧ w'.ownsRow w.heap.size 5 1 v' m xs ∧ v'.ownBlock ≠ none ∧ Below w.heap.size w w' := by
  obtain ⟨i0, hi0, hz0, hz1, hz2⟩ := info_parts info_u8
  obtain ⟨hl, h1, hrr⟩ := hr
  rcases hrr with ⟨rfl, _⟩ | ⟨ad, c, rfl, hc⟩
  · exact absurd rfl hv
  · have hnil := fun (w : World) => Lib.run_eql_slice_nil (P := Try.prog) w 29 5 (some ad) m c 0 0 Try.underlying29
    have hrd : Rd (w.alloc (.cells #[] 5)) 1 (.slice (some ad) m c) m xs := ⟨hl, h1, .inr ⟨ad, c, rfl, fun j u hj => by
      have := hc j u hj
      rw [World.cell?_alloc_lt _ _ _ (World.block_lt_of_cell? w _ this)]; exact this⟩⟩
    have hown : (w.alloc (.cells #[] 5)).ownsRow w.heap.size 5 1 (.slice (some ⟨w.heap.size, 0, none⟩) 0 0) 0 [] := World.ownsRow_made w #[] 0 (Nat.le_refl _) (by unfold maxLen; omega) (by simp)
    have HR := hid hrd; have HO := hid hown
    clear hc hrd hown hv
    go_enter Try.func25, Try.ntmps25
    go_wp2_with (first
      | (at_builtin; refine wpList_append_rd rfl _ _ _ rfl w.heap.size _ i0 _ 1 1 Try.underlying29 hi0 hz0 hz1 hz2 rfl (by decide) _ 0 _ (by rfl) HO.out _ m xs (by rfl) HR.out (by unfold maxLen; omega) (by omega) (by simp) ?_; intro v' w1 hown1 hgrow1 hat1 hn1))
    go_ret
    refine ⟨v', rfl, by simpa using hown1, ?_, ?_⟩
    · rcases hat1 with e | e <;> rw [e] <;> simp [Value.ownBlock]
    · exact ((Below.refl _ w).alloc (Nat.le_refl _) _).grown hgrow1 (by simp) (by intro k hk; simp [Value.ownBlock] at hk; omega)

end Go.Proofs.Ytcdmegaebcjnlaa
