/- What is proved: what the column's functions do to a column in memory: Clone. -/
import Derived.Test.YtcdmegaebcjnlaaColWalk3
namespace Go.Proofs.Ytcdmegaebcjnlaa
open Go.RowKit Go.Proofs.Heap Go.Proofs.Col

/-- The clone after k chunks: its header (block d), its list, its chunks, all new. -/
structure Half (w wr : World) (d sz cap n k : Nat) (v : Value) (cs : List Chunk) (R : Nat → List UInt8) : Prop where
  head : wr.heap[d]? = some (Obj.cells #[Value.int .i64 (sz : Int), Value.int .i64 (cap : Int), Value.int .i64 (n : Int), v] 56 (0, 0))
  own : wr.ownsRow w.heap.size 29 1 v k (cs.map (chunkV sz))
  len : cs.length = k
  chunk : ∀ j c, cs[j]? = some c → wr.heap[c.1]? = some (Obj.cells (chunkC R j c) 5 (0, 0)) ∧ w.heap.size ≤ c.1 ∧ c.2.length ≤ 9223372036854775807
  nd : (d :: (v.ownBlock.toList ++ cs.map (·.1))).Nodup
  below : Below w.heap.size w wr
  new : w.heap.size ≤ d

/-- All chunks are there: a column. -/
theorem Half.col {w wr : World} {b d sz cap n : Nat} {v v' : Value} {cbs cs : List Chunk} {R : Nat → List UInt8} (h : CC w b sz cap n v cbs R) (hh : Half w wr d sz cap n cbs.length v' cs R) : CC wr d sz cap n v' cs R :=
  { head := hh.head
    own := by
      rw [hh.len]
      obtain ⟨h1, h2⟩ := hh.own
      refine ⟨h1, ?_⟩
      rcases h2 with h2 | ⟨g, c, cur, e1, e2, r⟩
      · exact .inl h2
      · exact .inr ⟨g, c, cur, e1, Nat.zero_le _, r⟩
    len := by rw [hh.len]; exact h.len
    chunk := fun j c hj => (hh.chunk j c hj).1
    nd := hh.nd
    lo := by rw [hh.len]; exact h.lo
    k_le := by rw [hh.len]; exact h.k_le
    rest_le := fun c hc => by obtain ⟨j, hj⟩ := List.getElem?_of_mem hc; exact (hh.chunk j c hj).2.2
    sz_le := h.sz_le
    n_le := h.n_le
    cap_le := h.cap_le }

theorem drop_eq_of_take {α : Type} {l : List α} {n : Nat} {x : List α} (h : l.take n = x) : ∃ r, l = x ++ r := ⟨l.drop n, by rw [← h, List.take_append_drop]⟩

/-- One chunk more: behind the clone of its bytes, the box, the append and the store. -/
theorem Half.step {w wr w1 : World} {d sz cap n k : Nat} {v : Value} {cs : List Chunk} {R : Nat → List UInt8} (h : Half w wr d sz cap n k v cs R) (hR : ∀ i, i / 16 = k → (R i).length = sz)
    {vb : Value} (hb : w1.ownsRow wr.heap.size 5 1 vb (16 * sz) ((chunkOf R k).map byteV)) (hbn : vb.ownBlock ≠ none) (hk1 : Below wr.heap.size wr w1) :
    ∃ c : Chunk, vb = chunkV sz c ∧ ∀ (w2 : World) (v' : Value), (w2.ownsRow w.heap.size 29 1 v' (k + 1) (cs.map (chunkV sz) ++ [chunkV sz c])) → (∀ j, j < w1.heap.size → some j ≠ v.ownBlock → w2.heap[j]? = w1.heap[j]?) →
      (v'.ownBlock = v.ownBlock ∨ v'.ownBlock = some (w1.heap.size + 1)) → Below w.heap.size w w2 →
      Half w (w2.setCell ⟨d, 3, none⟩ v') d sz cap n (k + 1) v' (cs ++ [c]) R := by
  rcases owns_block hb with ⟨rfl, _⟩ | ⟨g, kc, cur, rfl, hg1, hg2, hle, hm, hsz, ht⟩
  · exact absurd rfl hbn
  · simp only [Nat.mul_one] at ht hsz
    obtain ⟨r, hr⟩ := drop_eq_of_take ht
    have hcl := chunk_len (sz := sz) (R := R) (j := k) hR
    have hlen : kc = 16 * sz + r.length := by
      have := congrArg List.length hr
      simp [hcl] at this; omega
    refine ⟨(g, r), by simp [chunkV, hlen], ?_⟩
    intro w2 v' hown hold hat hbel
    have hcur : cur = chunkC R k (g, r) := by unfold chunkC; rw [← hr]
    have hdl : d < wr.heap.size := lt_of_heap h.head
    have hnd := h.nd
    simp only [List.nodup_cons, List.mem_append, Option.mem_toList, not_or, List.nodup_append] at hnd
    obtain ⟨⟨hd1, hd2⟩, _, hnd2, hdis⟩ := hnd
    have hs1 := hk1.size
    have hcs : ∀ c ∈ cs.map (·.1), c < wr.heap.size := fun c hc => by
      obtain ⟨x, hx, rfl⟩ := List.mem_map.1 hc
      obtain ⟨j, hj⟩ := List.getElem?_of_mem hx
      exact lt_of_heap (h.chunk j x hj).1
    have hob : ∀ j, v.ownBlock = some j → j < wr.heap.size := fun j hj => (h.own.lt j hj).2
    have hg : g ≠ d ∧ g ∉ cs.map (·.1) := ⟨by omega, fun hc => by have := hcs g hc; omega⟩
    have hkeep : ∀ j, j < w1.heap.size → some j ≠ v.ownBlock → j ≠ d → (w2.setCell ⟨d, 3, none⟩ v').heap[j]? = w1.heap[j]? := fun j h1 h2 h3 => (hsc_ne _ h3).trans (hold j h1 h2)
    have hd2' : w2.heap[d]? = _ := ((hold d (by omega) (fun e => hd1 e.symm)).trans (hk1.block d hdl)).trans h.head
    have hvd : v'.ownBlock ≠ some d := by
      rcases hat with e | e
      · rw [e]; exact hd1
      · rw [e]; intro e2; injection e2 with e2; omega
    refine { head := ?_, own := ?_, len := by simp [h.len], chunk := ?_, nd := ?_, below := ?_, new := h.new }
    · rw [hsc_same hd2']; rfl
    · refine owns_keep (by simpa using hown) (fun j hj => hsc_ne _ (fun e => hvd (e ▸ hj)))
    · intro j c hj
      by_cases hjk : j < cs.length
      · rw [List.getElem?_append_left hjk] at hj
        obtain ⟨e1, e2, e3⟩ := h.chunk j c hj
        have hm := mem_blocks (List.mem_of_getElem? hj)
        have hcl := hcs _ hm
        refine ⟨?_, e2, e3⟩
        rw [hkeep c.1 (by omega) (fun e => hdis _ e.symm _ hm rfl) (fun e => hd2 (e ▸ hm)), hk1.block c.1 hcl]
        exact e1
      · have hlen2 := (List.getElem?_eq_some_iff.1 hj).1
        obtain rfl : j = cs.length := by simp at hlen2; omega
        simp at hj
        subst hj
        refine ⟨?_, by have := h.below.size; simp; omega, by simp; unfold maxLen at hm; omega⟩
        rw [hkeep g (lt_of_heap hg2) (fun e => by have := hob g e.symm; omega) hg.1, hg2, hcur, h.len]
    · rw [List.map_append, List.map_cons, List.map_nil]
      simp only [List.nodup_cons, List.mem_append, Option.mem_toList, not_or, List.nodup_append, List.mem_cons, List.not_mem_nil, or_false, not_false_eq_true, List.nodup_nil, and_self, true_and]
      refine ⟨⟨hvd, hd2, fun e => hg.1 e.symm⟩, ?_, ⟨hnd2, fun a ha b hb => ?_⟩, fun a ha b hb => ?_⟩
      · cases v'.ownBlock <;> simp
      · subst hb; exact fun e => hg.2 (e ▸ ha)
      · rcases hat with e | e
        · rw [e] at ha
          rcases hb with hb | rfl
          · exact hdis a ha b hb
          · have := hob a ha; omega
        · rw [e] at ha
          injection ha with ha
          rcases hb with hb | rfl
          · have := hcs b hb; omega
          · have := lt_of_heap hg2; omega
    · exact hbel.setCell h.new _


theorem info_col : (Try.prog.info? 56).map (fun i => (i.zero, i.size, i.bytes)) = some (some (.agg #[.int .i64 0, .int .i64 0, .int .i64 0, .slice none 0 0]), 4, 48) := by kernel_rfl

set_option maxHeartbeats 1000000 in
theorem col_clone {b sz cap n : Nat} {v : Value} {cbs : List Chunk} {R : Nat → List UInt8} (w : World) (h : CC w b sz cap n v cbs R) :
    Calls Try.prog 15 #[.pointer (some ⟨b, 0, none⟩)] w fun e w' => e = .returned (.pointer (some ⟨w.heap.size, 0, none⟩)) ∧
      ∃ v' cs, Half w w' w.heap.size sz cap n cbs.length v' cs R := by
  obtain ⟨vp, kc, hv⟩ := h.val
  have hc0 := CC.c0 h; have hc1 := CC.c1 h; have hc2 := CC.c2 h; have hc3 := CC.c3 h
  rw [hv] at hc3
  have hbl : b < w.heap.size := lt_of_heap h.head
  have HC := hid h; have HV := hid hv
  clear h hv
  go_enter Try.func15, Try.ntmps15
  go_wp2
  have HH : Half w (w.alloc (.cells #[.int .i64 (sz : Int), .int .i64 (cap : Int), .int .i64 (n : Int), .slice none 0 0] 56)) w.heap.size sz cap n 0 (.slice none 0 0) [] R :=
    { head := heap_alloc_new w _
      own := World.ownsRow_nil _ _ _ _
      len := rfl
      chunk := fun j c hj => by simp at hj
      nd := by simp [Value.ownBlock]
      below := (Below.refl _ w).alloc (Nat.le_refl _) _
      new := Nat.le_refl _ }
  obtain ⟨i1, hi1, hy0, hy1, hy2⟩ := info_parts info_bytes
  go_loopw [17] (fun i wr => ∃ (k : Nat) (v' : Value) (cs : List Chunk), k ≤ cbs.length ∧ i = .int .i64 k ∧ Half w wr w.heap.size sz cap n k v' cs R) (fun i _ => cbs.length - (intOf i).toNat)
  case atStart => exact ⟨0, _, _, Nat.zero_le _, rfl, HH⟩
  case round =>
    clear HH
    obtain ⟨k, v', cs, hk, rfl, hh⟩ := hrel
    have hkl : k ≤ 4096 := by have := HC.out.k_le; omega
    by_cases hlt : k < cbs.length
    · obtain ⟨g, kc2, cur, cb, hv2, hg, hcur, hcb, hch, h1, h2, h3⟩ := Col.at HC.out (i := 16 * k) (by omega)
      have e16 : 16 * k / 16 = k := by omega
      rw [e16] at hcur hcb hch
      have hv3 := HV.out.symm.trans hv2
      injection hv3 with hvp _ hkk
      subst hvp
      subst hkk
      have hR : ∀ i, i / 16 = k → (R i).length = sz := fun i hi => HC.out.len i (by omega)
      have hcl := chunk_len (sz := sz) (R := R) (j := k) hR
      have hbel := hh.below
      have hgl : wr.cell? ⟨g, k, none⟩ = some (.slice (some ⟨cb.1, 0, none⟩) (16 * sz) (16 * sz + cb.2.length)) := cell_of ((hbel.block g (lt_of_heap hg)).trans hg) hcur
      have hk' : (0 : Int) ≤ (k : Int) ∧ (k : Int) < (cbs.length : Int) := ⟨by omega, by omega⟩
      have hrd : Rd wr.drew 1 (.slice (some ⟨cb.1, 0, none⟩) (16 * sz) (16 * sz + cb.2.length)) (16 * sz) ((chunkOf R k).map byteV) := by
        refine ⟨by simp [hcl], byteV_one _, .inr ⟨_, _, rfl, fun j u hj => ?_⟩⟩
        have hadd : (⟨cb.1, 0, none⟩ : Addr).add j = ⟨cb.1, j, none⟩ := by unfold Addr.add; split <;> simp_all
        rw [hadd]
        refine cell_of (w := wr.drew) ((hbel.block cb.1 (lt_of_heap hch)).trans hch) ?_
        have := (List.getElem?_eq_some_iff.1 hj).1
        unfold chunkC
        rw [List.getElem?_toArray, List.getElem?_append_left this]; exact hj
      have hcall := clone_bytes wr.drew _ (16 * sz) _ (by simp) hrd (by have := HC.out.sz_le; omega)
      have hd3 : wr.cell? ⟨w.heap.size, 3, none⟩ = some v' := cell_of hh.head rfl
      have hdl : w.heap.size < wr.heap.size := lt_of_heap hh.head
      have H1 := hid hcall; have H2 := hid hh; have H3 := hid hR
      clear hcall hh hR hcl hrd hg hcur hcb hch hv2 e16 h3 hbel
      go_wp2
      refine Plan.wp_region_plan [(false, 0, []), (false, 1, []), (false, 2, []), (true, 3, [1, 0]), (true, 4, [1, 0]), (true, 5, []), (false, 6, []), (true, 7, [])] (by kernel_rfl) (by kernel_rfl) ?_
      repeat (refine Plan.plan_st rfl ?_; go_big_quiet_step (fail); refine wpQuiet_nil ?_)
      refine Plan.plan_ac rfl ?_
      go_wp2_with fail
      refine H1.out.mono ?_
      rintro e w1 ⟨vb, rfl, hown1, hnb, hb1⟩
      have hb2 : Below wr.heap.size wr w1 := ⟨hb1.os, hb1.tape, hb1.output, hb1.size, hb1.block⟩
      obtain ⟨c, hvb, hstep⟩ := Half.step H2.out H3.out hown1 hnb hb2
      unfold chunkV at hvb
      subst hvb
      have hd1 : w1.cell? ⟨w.heap.size, 3, none⟩ = some v' := (hb2.cell (p := ⟨w.heap.size, 3, none⟩) hdl).trans hd3
      have hs1 := hb2.size
      have hdl1 : w.heap.size < w1.heap.size := by omega
      have hnew : ((w1.alloc (.cells #[chunkV sz c] 29)).heap[w1.heap.size]? = some (Obj.cells #[chunkV sz c] 29 (0, 0))) := heap_alloc_new w1 _
      have howns : (w1.alloc (.cells #[chunkV sz c] 29)).ownsRow w.heap.size 29 1 v' k (cs.map (chunkV sz)) := (owns_keep H2.out.own (fun g hg => hb2.block g (H2.out.own.lt g hg).2)).alloc _
      have hbb : Below w.heap.size w (w1.alloc (.cells #[chunkV sz c] 29)) := (H2.out.below.trans (hb2.mono (by omega))).alloc (by omega) _
      have hvl := fun g hg => (H2.out.own.lt g hg)
      have HS := hid hstep; have HN := hid hnew; have HO := hid howns; have HB := hid hbb; have HV2 := hid hvl
      clear hstep hown1 hb1 hb2 hnb hnew howns hbb hvl
      go_wp2
      refine Plan.planQ_mk ?_ ?_
      · repeat (refine Plan.chk_st rfl ?_ ?_; focus (go_big_quiet_step (fail); exact wpQuiet_nil rfl))
        exact Plan.chk_end
      refine Plan.plan_ac rfl ?_
      go_wp2
      refine Plan.planQ_mk ?_ ?_
      · repeat (refine Plan.chk_st rfl ?_ ?_; focus (go_big_quiet_step (fail); exact wpQuiet_nil rfl))
        exact Plan.chk_end
      refine Plan.plan_ac rfl ?_
      refine wpList_append_rd rfl _ _ _ rfl w.heap.size _ i1 _ 1 24 Try.underlying54 hi1 hy0 hy1 hy2 rfl (by decide) _ k _ (by rfl) HO.out _ 1 [chunkV sz c] (by rfl) (rd_block HN.out (by simp) (by simp [Value.oneCell', chunkV])) (by unfold maxLen; omega) (by omega) (by simp; omega) ?_
      intro v2 w2 hown2 hgrow2 hat2 hn2
      obtain ⟨p2, c2, rfl⟩ := owns_val hown2
      have hfin := HS.out w2 _ hown2 (fun j h1 h2 => (hgrow2.block j (by simp; omega) h2).trans (Below.heap_alloc _ _ _ h1)) (by simpa using hat2) (HB.out.grown hgrow2 (by simp; omega) (fun j hj => (HV2.out j hj).1))
      have hd2 : w2.cell? ⟨w.heap.size, 3, none⟩ = some v' := by
        have hne : some w.heap.size ≠ v'.ownBlock := fun e => by
          have := H2.out.nd
          simp only [List.nodup_cons, List.mem_append, Option.mem_toList, not_or] at this
          exact this.1.1 e.symm
        have h5 : w2.heap[w.heap.size]? = w1.heap[w.heap.size]? := (hgrow2.block _ (by simp; omega) hne).trans (Below.heap_alloc _ _ _ (by omega))
        rw [World.cell?_of_block (a := ⟨w.heap.size, 3, none⟩) h5]; exact hd1
      have hf2 : w2.frozen? ⟨w.heap.size, 3, none⟩ = false := by
        have := hfin.head
        have h6 := free_of this 3
        simpa using h6
      have HF := hid hfin
      clear hfin hown2 hgrow2 hat2 hn2 HS HN HO HB HV2 hd1 hd3 hgl
      go_wp2
      refine Plan.planQ_mk Plan.chk_end ?_
      repeat (refine Plan.plan_st rfl ?_; go_big_quiet_step (fail); refine wpQuiet_nil ?_)
      refine Plan.plan_ac rfl ?_
      go_wp2
      refine Plan.planQ_mk Plan.chk_end ?_
      refine Plan.plan_end ?_
      go_wp2
      go_roundw
      case rel => exact ⟨k + 1, _, _, by omega, by go_num, HF.out⟩
      case measure => simp [intOf]; omega
    · obtain rfl : k = cbs.length := by omega
      have H2 := hid hh
      clear hh
      go_wp2
      go_ret
      exact ⟨rfl, _, _, H2.out⟩

end Go.Proofs.Ytcdmegaebcjnlaa
