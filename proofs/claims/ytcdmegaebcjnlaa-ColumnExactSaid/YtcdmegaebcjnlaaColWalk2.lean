/- What is proved: what the column's functions do to a column in memory: Set, Append. -/
import Derived.Test.YtcdmegaebcjnlaaColWalk
import Derived.Deep.AppendLies
namespace Go.Proofs.Ytcdmegaebcjnlaa
open Go.RowKit Go.Proofs.Heap Go.Proofs.Col

theorem info_u8 : (Try.prog.info? 5).map (fun i => (i.zero, i.size, i.bytes)) = some (some (.int .u8 0), 1, 1) := by kernel_rfl
theorem size_u8 : (Try.prog.info? 5).map (·.size) = some 1 := by kernel_rfl
theorem info_bytes : (Try.prog.info? 29).map (fun i => (i.zero, i.size, i.bytes)) = some (some (.slice none 0 0), 1, 24) := by kernel_rfl

def bytesOf (s : ByteArray) : List UInt8 := s.data.toList

/-- 'copy(c.cell(i), row)': its run. -/
theorem run_copy_cell {w : World} {b sz cap n : Nat} {v : Value} {cbs : List Chunk} {R : Nat → List UInt8} (h : CC w b sz cap n v cbs R) (i : Nat) (cb : Chunk) (hi : i < 16 * cbs.length) (hcb : cbs[i / 16]? = some cb) (s : ByteArray) (hs : s.size = sz) :
    (Builtin.copy_ #[29, 9] 3 #[cellV cb sz i, .string s]).run Try.prog w = .ok (goInt sz) (w.setRow cb.1 (chunkC (upd R i (bytesOf s)) (i / 16) cb)) := by
  have hcl := chunk_len (sz := sz) (R := R) (j := i / 16) (fun j hj => h.len j (by omega))
  have h2 : i % 16 * sz ≤ 15 * sz := Nat.mul_le_mul_right _ (by omega)
  have hb : (bytesOf s).length = sz := by simpa [bytesOf] using hs
  have hrun := run_copy_string (P := Try.prog) w 29 9 3 5 cb.1 (i % 16 * sz) sz (16 * sz + cb.2.length - i % 16 * sz) s _ _ Try.underlying29 size_u8 (h.chunk _ _ hcb) (by omega)
    (by simp [chunkC, hcl]; omega)
  have hu := chunk_upd (sz := sz) (R := R) (i := i) (row := bytesOf s) (fun j hj => h.len j (by omega))
  rw [hs] at hrun
  unfold cellV
  rw [hrun]
  congr 2
  unfold chunkC
  rw [← hu]
  simp only [List.map_append, List.map_take, List.map_drop]
  have h3 : i % 16 * sz ≤ ((chunkOf R (i / 16)).map byteV).length := by simp [hcl]; omega
  have h4 : i % 16 * sz + sz ≤ ((chunkOf R (i / 16)).map byteV).length := by simp [hcl]; omega
  rw [List.take_append_of_le_length h3, List.drop_append_of_le_length h4]
  simp only [List.append_assoc, bytesOf]

set_option maxHeartbeats 400000 in
theorem col_set {b sz cap n : Nat} {v : Value} {cbs : List Chunk} {R : Nat → List UInt8} (w : World) (h : CC w b sz cap n v cbs R) (i : Int) (h0 : 0 ≤ i) (h1 : i < n) (s : ByteArray) (hs : s.size = sz) :
    Calls Try.prog 16 #[.pointer (some ⟨b, 0, none⟩), .int .i64 i, .string s] w fun e w' => e = .returned (.int .i64 0) ∧
      CC w' b sz cap n v cbs (upd R i.toNat (bytesOf s)) ∧ Keep (fun k => k ∈ cbs.map (·.1)) w w' := by
  obtain ⟨k, rfl⟩ := Int.eq_ofNat_of_zero_le h0
  have hlo := h.lo
  obtain ⟨cb, hcb, hh, hc⟩ := col_cell w h k (by omega)
  have hrun := run_copy_cell (w := w.drew) (h.keep fun _ _ => rfl) k cb (by omega) hcb s hs
  have hset := Col.set (w := w.drew) (h.keep fun _ _ => rfl) (i := k) hcb (row := bytesOf s) (by simpa [bytesOf] using hs)
  have hkeep : Keep (fun k => k ∈ cbs.map (·.1)) w (w.drew.setRow cb.1 (chunkC (upd R k (bytesOf s)) (k / 16) cb)) := (Keep.refl _ w).drew.setRow (mem_blocks (List.mem_of_getElem? hcb)) _
  generalize w.drew.setRow cb.1 (chunkC (upd R k (bytesOf s)) (k / 16) cb) = W at hrun hset hkeep
  have hck := check_ok b n k w (CC.c2 h) h0 h1
  have hc0 := CC.c0 h
  have hs' : ((s.size : Int) != (sz : Int)) = false := by simp [hs]
  have H1 := hid hc; have H2 := hid hck; have H3 := hid hset; have H4 := hid hkeep
  clear hc hck hset hkeep hs
  go_enter Try.func16, Try.ntmps16
  go_wp2_with (first
    | (go_at_call 24; refine H2.out.mono ?_; rintro e w' ⟨rfl, rfl⟩)
    | (go_at_call 23; refine H1.out.mono ?_; rintro e w' ⟨rfl, rfl⟩))
  go_ret
  exact ⟨rfl, H3.out, H4.out⟩


set_option maxHeartbeats 400000 in
theorem col_app_form {b : Nat} {sz : Nat} (w : World) (h : w.cell? ⟨b, 0, none⟩ = some (.int .i64 sz)) (s : ByteArray) (hs : s.size ≠ sz) :
    Calls Try.prog 9 #[.pointer (some ⟨b, 0, none⟩), .string s] w fun e w' => e = .returned (.int .i64 4) ∧ w = w' := by
  have hs' : ((s.size : Int) != (sz : Int)) = true := by simp; omega
  clear hs
  go_enter Try.func9, Try.ntmps9
  go_wp2
  go_ret
  exact ⟨rfl, rfl⟩

set_option maxHeartbeats 400000 in
theorem col_app_nil (w : World) (s : ByteArray) :
    Calls Try.prog 9 #[.pointer none, .string s] w fun e w' => e = .returned (.int .i64 2) ∧ w = w' := by
  go_enter Try.func9, Try.ntmps9
  go_wp2
  go_ret
  exact ⟨rfl, rfl⟩

set_option maxHeartbeats 400000 in
theorem col_app_full {b sz cap n : Nat} {v : Value} {cbs : List Chunk} {R : Nat → List UInt8} (w : World) (h : CC w b sz cap n v cbs R) (s : ByteArray) (hs : s.size = sz) (hn : n = cap) :
    Calls Try.prog 9 #[.pointer (some ⟨b, 0, none⟩), .string s] w fun e w' => e = .returned (.int .i64 5) ∧ w.drew = w' := by
  have hs' : ((s.size : Int) != (sz : Int)) = false := by simp [hs]
  have hn' : ((n : Int) == (cap : Int)) = true := by simp [hn]
  have hc0 := CC.c0 h; have hc1 := CC.c1 h; have hc2 := CC.c2 h; have hc3 := CC.c3 h
  clear hs hn h
  go_enter Try.func9, Try.ntmps9
  go_wp2
  refine Plan.wp_region_reads (by kernel_rfl) (by kernel_rfl) ?_
  repeat (go_big_quiet_step (fail))
  refine wpQuiet_nil ?_
  go_wp2
  go_ret
  exact ⟨rfl, rfl⟩

/-- There is room in the last chunk. -/
theorem col_app_room {b sz cap n : Nat} {v : Value} {cbs : List Chunk} {R : Nat → List UInt8} (w : World) (h : CC w b sz cap n v cbs R) (s : ByteArray) (hs : s.size = sz) (hn : n < cap) (hk : n < 16 * cbs.length) :
    Calls Try.prog 9 #[.pointer (some ⟨b, 0, none⟩), .string s] w fun e w' => e = .returned (.int .i64 0) ∧
      CC w' b sz cap (n + 1) v cbs (upd R n (bytesOf s)) ∧ Keep (fun k => k = b ∨ k ∈ cbs.map (·.1)) w w' := by
  obtain ⟨g, kc, cur, cb, hv, hg, hcur, hcb, hh, h1, h2, h3⟩ := Col.at h hk
  obtain ⟨cb', hcb', _, hc⟩ := col_cell w.drew.drew (h.keep fun _ _ => rfl) n hk
  obtain rfl : cb' = cb := by rw [hcb] at hcb'; exact (Option.some.inj hcb').symm
  have hrun := run_copy_cell (w := w.drew.drew.drew) (h.keep fun _ _ => rfl) n cb' hk hcb s hs
  have hset := Col.set (w := w.drew.drew.drew) (h.keep fun _ _ => rfl) (i := n) hcb (row := bytesOf s) (by simpa [bytesOf] using hs)
  have hkeep : Keep (fun k => k = b ∨ k ∈ cbs.map (·.1)) w (w.drew.drew.drew.setRow cb'.1 (chunkC (upd R n (bytesOf s)) (n / 16) cb')) := (Keep.refl _ w).drew.drew.drew.setRow (Or.inr (mem_blocks h3)) _
  generalize w.drew.drew.drew.setRow cb'.1 (chunkC (upd R n (bytesOf s)) (n / 16) cb') = W at hrun hset hkeep
  have hfin : CC (W.setCell ⟨b, 2, none⟩ (.int .i64 ((n : Int) + 1))) b sz cap (n + 1) v cbs (upd R n (bytesOf s)) := by
    refine Col.count hset (by omega) (by omega) ?_ (fun k hk => hsc_ne _ hk)
    rw [hsc_same hset.head]; rfl
  have hkeep2 : Keep (fun k => k = b ∨ k ∈ cbs.map (·.1)) w (W.setCell ⟨b, 2, none⟩ (.int .i64 ((n : Int) + 1))) := hkeep.setCell (Or.inl rfl) _
  have hs' : ((s.size : Int) != (sz : Int)) = false := by simp [hs]
  have hn' : ((n : Int) == (cap : Int)) = false := by simp; omega
  have hm : cbs.length ≤ 4096 := h.k_le
  have hk' : ((n : Int) == (cbs.length : Int) * 16) = false := by simp; omega
  have hnn : n ≤ 65536 := by have := h.n_le; have := h.cap_le; omega
  have hc0 := CC.c0 h; have hc1 := CC.c1 h; have hc2 := CC.c2 h; have hc3 := CC.c3 h
  rw [hv] at hc3
  have hW2 : W.cell? ⟨b, 2, none⟩ = some (.int .i64 n) := CC.c2 hset
  have hWf : W.frozen? ⟨b, 2, none⟩ = false := free_of hset.head 2
  have H1 := hid hc; have H3 := hid hfin; have H4 := hid hkeep2
  clear hc hset hkeep hs hfin hkeep2 hv hg hcur hcb hcb' hh h
  go_enter Try.func9, Try.ntmps9
  go_wp2
  refine Plan.wp_region_reads (by kernel_rfl) (by kernel_rfl) ?_
  repeat (go_big_quiet_step (fail))
  refine wpQuiet_nil ?_
  go_wp2
  refine Plan.wp_region_reads (by kernel_rfl) (by kernel_rfl) ?_
  repeat (go_big_quiet_step (fail))
  refine wpQuiet_nil ?_
  go_wp2_with (first
    | (go_at_call 23; refine H1.out.mono ?_; rintro e w' ⟨rfl, rfl⟩))
  go_ret
  exact ⟨rfl, H3.out, H4.out⟩

theorem made_zero (n : Nat) : madeCells #[Value.int .u8 0] n = ((List.replicate n (0 : UInt8)).map byteV).toArray := by
  apply Array.ext
  · simp [madeCells]
  · intro i h1 h2
    simp [madeCells, byteV, Nat.mod_one]

/-- The last chunk is full: a new one. -/
theorem col_app_more {b sz cap : Nat} {v : Value} {cbs : List Chunk} {R : Nat → List UInt8} (w : World) (h : CC w b sz cap (16 * cbs.length) v cbs R) (s : ByteArray) (hs : s.size = sz) (hn : 16 * cbs.length < cap) :
    Calls Try.prog 9 #[.pointer (some ⟨b, 0, none⟩), .string s] w fun e w' => e = .returned (.int .i64 0) ∧
      ∃ v' cb, CC w' b sz cap (16 * cbs.length + 1) v' (cbs ++ [(cb, [])]) (upd (zeroed R cbs.length sz) (16 * cbs.length) (bytesOf s)) ∧ Keep (fun k => k ∈ foot b v cbs) w w' ∧
        w.heap.size ≤ cb ∧ (∀ g, v'.ownBlock = some g → v.ownBlock = some g ∨ w.heap.size ≤ g) := by
  obtain ⟨vp, kc, rfl⟩ := h.val
  obtain ⟨i0, hi0, hz0, hz1, hz2⟩ := info_parts info_u8
  obtain ⟨i1, hi1, hy0, hy1, hy2⟩ := info_parts info_bytes
  have hsz := h.sz_le
  have hmk : ∀ w, (Instr.makeSlice 29 (.int .i64 (16 * (sz : Int))) (.int .i64 (16 * (sz : Int)))).run Try.prog w = .ok (.slice (some ⟨w.heap.size, 0, none⟩) (16 * sz) (16 * sz)) (w.alloc (.cells ((List.replicate (16 * sz) (0 : UInt8)).map byteV).toArray 5)) := by
    intro w
    have := run_make (P := Try.prog) w 29 5 i0 (.int .u8 0) Try.underlying29 hi0 hz0 .i64 .i64 (16 * (sz : Int)) (16 * (sz : Int)) (by omega) (by omega) (by rw [hz2]; omega) (by omega)
    rw [this]
    have e : (16 * (sz : Int)).toNat = 16 * sz := by omega
    rw [e, hz1, Nat.mul_one]
    show Result.ok _ (w.alloc (Obj.cells (madeCells #[Value.int .u8 0] (16 * sz)) _)) = _
    rw [made_zero]
  have hs' : ((s.size : Int) != (sz : Int)) = false := by simp [hs]
  have hn' : (16 * (cbs.length : Int) == (cap : Int)) = false := by simp; omega
  have hm : cbs.length ≤ 4096 := h.k_le
  have hk' : (16 * (cbs.length : Int) == (cbs.length : Int) * 16) = true := by simp; omega
  have hcap := h.cap_le
  have hc0 := CC.c0 h; have hc1 := CC.c1 h; have hc3 := CC.c3 h
  have hc2 : w.cell? ⟨b, 2, none⟩ = some (.int .i64 (16 * (cbs.length : Int))) := by have := CC.c2 h; simpa using this
  have hbl : b < w.heap.size := lt_of_heap h.head
  obtain ⟨L, hL⟩ : ∃ L, L = ((List.replicate (16 * sz) (0 : UInt8)).map byteV).toArray := ⟨_, rfl⟩
  rw [← hL] at hmk
  have hown3 : ((((w.alloc (.cells L 5)).alloc (.cells #[chunkV sz (w.heap.size, [])] 29)).drew.drew.drew).ownsRow 0 29 1 (.slice vp cbs.length kc) cbs.length (cbs.map (chunkV sz))) := (h.own.alloc _).alloc _
  have hnew3 : ((((w.alloc (.cells L 5)).alloc (.cells #[chunkV sz (w.heap.size, [])] 29)).drew.drew.drew).heap[w.heap.size + 1]? = some (Obj.cells #[chunkV sz (w.heap.size, [])] 29 (0, 0))) := by
    have := heap_alloc_new (w.alloc (.cells L 5)) (Obj.cells #[chunkV sz (w.heap.size, [])] 29)
    rw [World.size_alloc] at this
    exact this
  have hold3 : ∀ k, k < w.heap.size + 1 → ((((w.alloc (.cells L 5)).alloc (.cells #[chunkV sz (w.heap.size, [])] 29)).drew.drew.drew).heap[k]? = (w.alloc (.cells L 5)).heap[k]?) :=
    fun k hk => Go.heap_alloc_old (w.alloc (.cells L 5)) _ (by simpa using hk)
  have HC := hid h; have HL := hid hL; have HS := hid hs; have HO := hid hown3; have HN := hid hnew3; have HP := hid hold3
  clear h hs hL hown3 hnew3 hold3
  go_enter Try.func9, Try.ntmps9
  go_wp2
  refine Plan.wp_region_reads (by kernel_rfl) (by kernel_rfl) ?_
  repeat (go_big_quiet_step (fail))
  refine wpQuiet_nil ?_
  go_wp2
  refine Plan.wp_region_reads (by kernel_rfl) (by kernel_rfl) ?_
  repeat (go_big_quiet_step (fail))
  refine wpQuiet_nil ?_
  go_wp2
  refine Plan.wp_region_plan [(false, 0, []), (false, 1, []), (false, 2, []), (false, 3, []), (false, 4, []), (false, 5, []), (false, 6, []), (false, 7, []), (false, 8, []), (false, 9, []), (true, 10, [4, 3, 2, 1, 0]), (true, 11, [4, 3, 2, 1, 0]), (true, 12, [0]), (false, 13, []), (false, 14, []), (true, 15, [])] (by kernel_rfl) (by kernel_rfl) ?_
  repeat (refine Plan.plan_st rfl ?_; go_big_quiet_step (fail); refine wpQuiet_nil ?_)
  refine Plan.plan_ac rfl ?_
  go_wp2
  refine Plan.planQ_mk ?_ ?_
  · repeat (refine Plan.chk_st rfl ?_ ?_; focus (go_big_quiet_step (fail); exact wpQuiet_nil rfl))
    exact Plan.chk_end
  refine Plan.plan_ac rfl ?_
  go_wp2
  refine Plan.planQ_mk ?_ ?_
  · repeat (refine Plan.chk_st rfl ?_ ?_; focus (go_big_quiet_step (fail); exact wpQuiet_nil rfl))
    exact Plan.chk_end
  refine Plan.plan_ac rfl ?_
  refine wpList_append_lies _ rfl _ _ _ rfl 0 _ i1 _ 1 24 Try.underlying54 hi1 hy0 hy1 hy2 rfl (by decide) _ cbs.length _ (by rfl) HO.out ⟨w.heap.size + 1, 0, none⟩ 1 1 [chunkV sz (w.heap.size, [])] (by rfl) (by rfl)
    (World.news_of_block (cs := #[chunkV sz (w.heap.size, [])]) (t := 29) (fr := (0, 0)) HN.out) (by simp [Value.oneCell', chunkV]) (by decide) (by unfold maxLen; omega) (by omega) (by omega) (w.heap.size + 2) (by simp) ?_
  intro g cap' w5 hown5 hgrow hat hlt
  have hC := HC.out
  have hlts := hC.lt
  have hob : ∀ k, (Value.slice vp cbs.length kc).ownBlock = some k → k < w.heap.size ∧ k ≠ b ∧ k ∉ cbs.map (·.1) := by
    intro k hk
    obtain ⟨hb1, hb2, hb3, hb4⟩ := hC.blocks
    exact ⟨hlts k (by simp [foot, hk]), fun e => hb1 (e ▸ hk), hb4 k hk⟩
  have hkeep5 : ∀ k, k < w.heap.size + 1 → some k ≠ (Value.slice vp cbs.length kc).ownBlock → w5.heap[k]? = (w.alloc (.cells L 5)).heap[k]? := fun k hk hne =>
    (hgrow.block k (by simp; omega) hne).trans (HP.out k hk)
  have hold : ∀ k, k < w.heap.size → some k ≠ (Value.slice vp cbs.length kc).ownBlock → w5.heap[k]? = w.heap[k]? := fun k hk hne =>
    (hkeep5 k (by omega) hne).trans (Go.heap_alloc_old w _ hk)
  have hb5 : w5.heap[b]? = _ := (hold b hbl (fun e => (hob b e.symm).2.1 rfl)).trans hC.head
  have hnew5 : w5.heap[w.heap.size]? = some (Obj.cells L 5 (0, 0)) := (hkeep5 _ (by omega) (fun e => by have := (hob _ e.symm).1; omega)).trans (heap_alloc_new w _)
  have hgb : g ≠ b := by
    rcases hat with e | e
    · exact (hob g e).2.1
    · omega
  have hmore : CC (w5.setCell ⟨b, 3, none⟩ (.slice (some ⟨g, 0, none⟩) (cbs.length + 1) cap')) b sz cap (16 * cbs.length) (.slice (some ⟨g, 0, none⟩) (cbs.length + 1) cap') (cbs ++ [(w.heap.size, [])]) (zeroed R cbs.length sz) := by
    refine Col.more hC (by omega) ?_ ?_ ?_ ?_ ?_ (Nat.le_refl _) ?_ (by simp)
    · rw [hsc_same hb5]; rfl
    · refine owns_keep (by simpa using hown5) (fun k hk => hsc_ne _ ?_)
      simp [Value.ownBlock] at hk; omega
    · rw [hsc_ne _ (by simp; omega)]; simp only [List.append_nil]; rw [hnew5, HL.out]
    · intro c hc
      have hcl := hlts c (by simp only [foot, List.mem_cons, List.mem_append]; exact .inr (.inr hc))
      have hcb : c ≠ b := fun e => hC.blocks.2.1 (e ▸ hc)
      rw [hsc_ne _ hcb]
      exact hold c hcl (fun e => (hob c e.symm).2.2 hc)
    · rcases hat with e | e
      · exact .inl e
      · exact .inr (by omega)
    · rcases hat with e | e
      · have := (hob g e).1; omega
      · omega
  have hkeep6 : Keep (fun k => k ∈ foot b (.slice vp cbs.length kc) cbs) w (w5.setCell ⟨b, 3, none⟩ (.slice (some ⟨g, 0, none⟩) (cbs.length + 1) cap')) := by
    have hk5 : Keep (fun k => k ∈ foot b (.slice vp cbs.length kc) cbs) w w5 :=
      ⟨hgrow.os, hgrow.tape, hgrow.output, by have := hgrow.size; simp at this; omega, fun k hk hs => hold k hk (fun e => hs (by simp [foot, ← e]))⟩
    exact hk5.setCell (by simp [foot]) _
  have h3f : w5.frozen? ⟨b, 3, none⟩ = false := free_of hb5 3
  have h3c : w5.cell? ⟨b, 3, none⟩ = some (.slice vp cbs.length kc) := cell_of hb5 rfl
  generalize hw6 : w5.setCell ⟨b, 3, none⟩ (.slice (some ⟨g, 0, none⟩) (cbs.length + 1) cap') = w6 at hmore hkeep6
  have HW6 := hid hw6
  have HM := hid hmore; have HK := hid hkeep6; have HA := hid hat
  clear hown5 hgrow hlts hob hkeep5 hold hb5 hnew5 hgb hmore hkeep6 hC hw6 hlt hat HC HP HN HO HL hmk
  go_wp2
  refine Plan.planQ_mk ?_ ?_
  · repeat (refine Plan.chk_st rfl ?_ ?_; focus (go_big_quiet_step (fail); exact wpQuiet_nil rfl))
    exact Plan.chk_end
  repeat (refine Plan.plan_st rfl ?_; go_big_quiet_step (fail); refine wpQuiet_nil ?_)
  refine Plan.plan_ac rfl ?_
  go_wp2
  refine Plan.planQ_mk Plan.chk_end ?_
  refine Plan.plan_end ?_
  rw [HW6.out]
  have e16 : ((16 * cbs.length : Nat) : Int) = 16 * (cbs.length : Int) := by omega
  obtain ⟨cb, hcb, _, hc⟩ := col_cell w6 HM.out (16 * cbs.length) (by simp)
  have hdiv : 16 * cbs.length / 16 = cbs.length := by omega
  obtain rfl : cb = (w.heap.size, []) := by
    rw [hdiv] at hcb
    simpa using hcb.symm
  have hrun := run_copy_cell (w := w6.drew) (HM.out.keep fun _ _ => rfl) (16 * cbs.length) (w.heap.size, []) (by simp) hcb s HS.out
  have hset := Col.set (w := w6.drew) (HM.out.keep fun _ _ => rfl) (i := 16 * cbs.length) hcb (row := bytesOf s) (by simpa [bytesOf] using HS.out)
  have hkeep : Keep (fun k => k ∈ foot b (.slice vp cbs.length kc) cbs) w (w6.drew.setRow w.heap.size (chunkC (upd (zeroed R cbs.length sz) (16 * cbs.length) (bytesOf s)) (16 * cbs.length / 16) (w.heap.size, []))) := HK.out.drew.setRow_new (Nat.le_refl _) _
  generalize w6.drew.setRow w.heap.size (chunkC (upd (zeroed R cbs.length sz) (16 * cbs.length) (bytesOf s)) (16 * cbs.length / 16) (w.heap.size, [])) = W at hrun hset hkeep
  have hfin : CC (W.setCell ⟨b, 2, none⟩ (.int .i64 (16 * (cbs.length : Int) + 1))) b sz cap (16 * cbs.length + 1) (.slice (some ⟨g, 0, none⟩) (cbs.length + 1) cap') (cbs ++ [(w.heap.size, [])]) (upd (zeroed R cbs.length sz) (16 * cbs.length) (bytesOf s)) := by
    refine Col.count hset (by simp; omega) (by omega) ?_ (fun k hk => hsc_ne _ hk)
    rw [hsc_same hset.head]
    have : ((16 * cbs.length + 1 : Nat) : Int) = 16 * (cbs.length : Int) + 1 := by omega
    rw [this]; rfl
  have hkeep2 : Keep (fun k => k ∈ foot b (.slice vp cbs.length kc) cbs) w (W.setCell ⟨b, 2, none⟩ (.int .i64 (16 * (cbs.length : Int) + 1))) := hkeep.setCell (by simp [foot]) _
  have hW2 : W.cell? ⟨b, 2, none⟩ = some (.int .i64 (16 * (cbs.length : Int))) := by have := CC.c2 hset; rwa [e16] at this
  have hWf : W.frozen? ⟨b, 2, none⟩ = false := free_of hset.head 2
  have h62 : w6.cell? ⟨b, 2, none⟩ = some (.int .i64 (16 * (cbs.length : Int))) := by have := CC.c2 HM.out; rwa [e16] at this
  rw [e16] at hc
  have H1 := hid hc; have H3 := hid hfin; have H4 := hid hkeep2
  clear hc hset hkeep hfin hkeep2 hcb hdiv e16 h3f h3c hc0 hc1 hc2 hc3
  go_wp2_with (first
    | (go_at_call 23; refine H1.out.mono ?_; rintro e w' ⟨rfl, rfl⟩))
  go_ret
  refine ⟨rfl, _, _, H3.out, H4.out, Nat.le_refl _, ?_⟩
  intro g' hg'
  simp [Value.ownBlock] at hg'
  subst hg'
  rcases HA.out with e | e
  · exact .inl e
  · exact .inr (by omega)

end Go.Proofs.Ytcdmegaebcjnlaa
