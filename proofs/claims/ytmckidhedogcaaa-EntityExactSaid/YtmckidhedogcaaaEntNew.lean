/- What is proved: New of ids and generations lays an Index in which nobody lives. -/
import Derived.Test.YtmckidhedogcaaaEntAct
import Derived.Test.YtmckidhedogcaaaRegion5
import Derived.Test.YtmckidhedogcaaaHeap3
import Derived.Deep.OwnRows
namespace Go.Proofs.Ytmckidhedogcaaa
open Go.RowKit Go.Proofs.Heap Go.Proofs.HeapLaw

theorem x_new_no (n most : Int) (w : World) (h : n < 1 ∨ 256 < n ∨ most < 1 ∨ 65535 < most) :
    Calls Try.prog 12 #[.int .i64 n, .int .i64 most] w fun r w' => r = .returned (.pointer none) ∧ w = w' := by
  go_enter Try.func12, Try.ntmps12
  go_wp2
  all_goals (go_ret; exact ⟨rfl, rfl⟩)

theorem info_bool : (Try.prog.info? 4).map (fun i => (i.zero, i.size, i.bytes)) = some (some (.bool false), 1, 1) := by kernel_rfl

theorem made_int (n : Nat) : madeCells #[Value.int .i64 0] n = (natsV (fun _ => 0) n).toArray := by
  apply Array.ext
  · simp [madeCells]
  · intro i h1 h2
    simp [madeCells, Nat.mod_one]
theorem made_bool (n : Nat) : madeCells #[Value.bool false] n = (boolsV (fun _ => false) n).toArray := by
  apply Array.ext
  · simp [madeCells]
  · intro i h1 h2
    simp [madeCells, Nat.mod_one]

/-- The index under way: k ids are laid. -/
structure NW (w wr : World) (b p q n most k : Nat) (v : Value) : Prop where
  head : wr.heap[b]? = some (.cells #[iV most, .slice (some ⟨p, 0, none⟩) (n + 1) (n + 1), .slice (some ⟨q, 0, none⟩) (n + 1) (n + 1), v] 68 (0, 0))
  gown : wr.ownsRow 0 3 1 (.slice (some ⟨p, 0, none⟩) (n + 1) (n + 1)) (n + 1) (natsV (fun i => if 1 ≤ i ∧ i ≤ k then 1 else 0) (n + 1))
  lown : wr.ownsRow 0 4 1 (.slice (some ⟨q, 0, none⟩) (n + 1) (n + 1)) (n + 1) (boolsV (fun _ => false) (n + 1))
  fown : wr.ownsRow w.heap.size 3 1 v k ((List.range' 1 k).map iV)
  vb : v.ownBlock ≠ some b
  vp : v.ownBlock ≠ some p
  vq : v.ownBlock ≠ some q
  bp : b ≠ p
  bq : b ≠ q
  pq : p ≠ q
  b0 : w.heap.size ≤ b
  p0 : w.heap.size ≤ p
  q0 : w.heap.size ≤ q
  keep : Keep (fun _ => False) w wr

theorem NW.drew {w wr : World} {b p q n most k : Nat} {v : Value} (h : NW w wr b p q n most k v) : NW w wr.drew b p q n most k v := ⟨h.head, h.gown, h.lown, h.fown, h.vb, h.vp, h.vq, h.bp, h.bq, h.pq, h.b0, h.p0, h.q0, h.keep.drew⟩

theorem NW.step {w wr w3 : World} {b p q n most k : Nat} {v v' : Value} (h : NW w wr b p q n most k v) (hk : k < n) (hown : w3.ownsRow w.heap.size 3 1 v' (k + 1) ((List.range' 1 k).map iV ++ [iV (k + 1)]))
    (hg : ((wr.setCell ⟨p, k + 1, none⟩ (iV 1)).alloc (.cells #[iV (k + 1)] 3)).grownBy w3 v.ownBlock) (hat : v'.ownBlock = v.ownBlock ∨ v'.ownBlock = some ((wr.setCell ⟨p, k + 1, none⟩ (iV 1)).alloc (.cells #[iV (k + 1)] 3)).heap.size) :
    NW w (w3.setCell ⟨b, 3, none⟩ v') b p q n most (k + 1) v' := by
  have hbs : b < wr.heap.size := lt_of_heap h.head
  have hps := owns_lt h.gown
  have hqs := owns_lt h.lown
  have hsz : ((wr.setCell ⟨p, k + 1, none⟩ (iV 1)).alloc (.cells #[iV (k + 1)] 3)).heap.size = wr.heap.size + 1 := by simp [World.setCell]
  have hne : ∀ j, j < wr.heap.size → v.ownBlock ≠ some j → v'.ownBlock ≠ some j := by
    intro j hj h1 h2
    rcases hat with e | e
    · exact h1 (e ▸ h2)
    · rw [hsz] at e; rw [e] at h2; injection h2; omega
  have hblk : ∀ j, j < wr.heap.size → v.ownBlock ≠ some j → w3.heap[j]? = (wr.setCell ⟨p, k + 1, none⟩ (iV 1)).heap[j]? := by
    intro j hj h1
    rw [hg.block j (by rw [hsz]; omega) (fun e => h1 e.symm)]
    exact Below.heap_alloc _ _ j (by simpa [World.setCell] using hj)
  have hb3 : w3.heap[b]? = wr.heap[b]? := (hblk b hbs h.vb).trans (hsc_ne _ h.bp)
  have nb := hne b hbs h.vb
  refine ⟨?_, ?_, ?_, ?_, nb, hne p hps h.vp, hne q hqs h.vq, h.bp, h.bq, h.pq, h.b0, h.p0, h.q0, ?_⟩
  · have := hsc_same (hb3.trans h.head) 3 v'
    simpa using this
  · have h1 := owns_set h.gown (k + 1) (iV 1) (by omega)
    rw [natsV_upd] at h1
    have e : upd (fun i => if 1 ≤ i ∧ i ≤ k then 1 else 0) (k + 1) 1 = fun i => if 1 ≤ i ∧ i ≤ k + 1 then 1 else 0 := by
      funext i
      unfold upd
      by_cases e : i = k + 1
      · subst e; simp
      · rw [if_neg e]
        have : (1 ≤ i ∧ i ≤ k) ↔ (1 ≤ i ∧ i ≤ k + 1) := by omega
        simp only [this]
    rw [e] at h1
    exact owns_keep h1 fun j hj => by
      simp [Value.ownBlock] at hj; subst hj
      rw [hsc_ne _ (Ne.symm h.bp)]; exact hblk p hps h.vp
  · exact owns_keep h.lown fun j hj => by
      simp [Value.ownBlock] at hj; subst hj
      rw [hsc_ne _ (Ne.symm h.bq), hblk q hqs h.vq]; exact hsc_ne _ (Ne.symm h.pq)
  · have e : (List.range' 1 (k + 1)).map iV = (List.range' 1 k).map iV ++ [iV (k + 1)] := by
      rw [List.range'_1_concat]; simp; omega
    rw [e]
    exact owns_keep hown fun j hj => hsc_ne _ (fun e => nb (e ▸ hj))
  · refine Keep.setCell_new (p := ⟨b, 3, none⟩) ?_ h.b0 _
    refine Keep.grown ?_ hg (fun j hj => .inl (h.fown.lt j hj).1)
    exact (h.keep.setCell_new (p := ⟨p, k + 1, none⟩) h.p0 _).alloc _

set_option maxHeartbeats 4000000 in
theorem x_new (n most : Nat) (w : World) (h1 : 1 ≤ n) (h2 : n ≤ 256) (m1 : 1 ≤ most) (m2 : most ≤ 65535) :
    Calls Try.prog 12 #[iV n, iV most] w fun r w' => ∃ b g c p q, r = .returned (.pointer (some ⟨b, 0, none⟩)) ∧
      IX w' b g c p (n + 1) q (n + 1) n most (fun i => if i = 0 then 0 else 1) (fun _ => false) (List.range' 1 n) ∧ w.heap.size ≤ b ∧ w.heap.size ≤ g ∧ w.heap.size ≤ p ∧ w.heap.size ≤ q ∧ Keep (fun _ => False) w w' := by
  obtain ⟨i0, hi0, hz0, hz1, hz2⟩ := info_parts info_int
  have hmi : ∀ w, (Instr.makeSlice 29 (.int .i64 ((n : Int) + 1)) (.int .i64 ((n : Int) + 1))).run Try.prog w = .ok (.slice (some ⟨w.heap.size, 0, none⟩) (n + 1) (n + 1)) (w.alloc (.cells (natsV (fun _ => 0) (n + 1)).toArray 3)) := by
    intro w
    have := run_make_row' 29 3 (.int .i64 0) 8 Try.underlying29 info_int rfl .i64 .i64 (n + 1) (by omega) (by omega) w
    rw [made_int] at this
    exact this
  have hmb : ∀ w, (Instr.makeSlice 65 (.int .i64 ((n : Int) + 1)) (.int .i64 ((n : Int) + 1))).run Try.prog w = .ok (.slice (some ⟨w.heap.size, 0, none⟩) (n + 1) (n + 1)) (w.alloc (.cells (boolsV (fun _ => false) (n + 1)).toArray 4)) := by
    intro w
    have := run_make_row' 65 4 (.bool false) 1 Try.underlying65 info_bool rfl .i64 .i64 (n + 1) (by omega) (by omega) w
    rw [made_bool] at this
    exact this
  go_enter Try.func12, Try.ntmps12
  go_wp2_with fail
  refine Plan.wp_region_tr (.st 0 (.st 1 (.st 2 (.st 4 (.st 5 (.br 3 [0, 4, 5] (.ac 6 [0] (.st 7 (.ac 8 [] (.st 9 .done)))) 6 [0, 1, 2] (.ac 3 [0] (.st 7 (.ac 8 [] (.st 9 .done)))))))))) (by kernel_rfl) (by kernel_rfl) ?_
  repeat (refine Plan.tr_st rfl ?_; go_big_quiet_step (fail); refine wpQuiet_nil ?_)
  refine Plan.tr_br rfl rfl ?_ ?_
  · have hNW : NW w (((w.alloc (.cells (natsV (fun _ => 0) (n + 1)).toArray 3)).alloc (.cells (boolsV (fun _ => false) (n + 1)).toArray 4)).alloc (.cells #[iV most, .slice (some ⟨w.heap.size, 0, none⟩) (n + 1) (n + 1), .slice (some ⟨(w.heap.size + 1), 0, none⟩) (n + 1) (n + 1), .slice none 0 0] 68)) (w.heap.size + 1 + 1) w.heap.size (w.heap.size + 1) n most 0 (.slice none 0 0) := by
      have hb := heap_alloc_new ((w.alloc (.cells (natsV (fun _ => 0) (n + 1)).toArray 3)).alloc (.cells (boolsV (fun _ => false) (n + 1)).toArray 4)) (.cells #[iV most, .slice (some ⟨w.heap.size, 0, none⟩) (n + 1) (n + 1), .slice (some ⟨(w.heap.size + 1), 0, none⟩) (n + 1) (n + 1), .slice none 0 0] 68)
      have hk : Keep (fun _ => False) w (((w.alloc (.cells (natsV (fun _ => 0) (n + 1)).toArray 3)).alloc (.cells (boolsV (fun _ => false) (n + 1)).toArray 4)).alloc (.cells #[iV most, .slice (some ⟨w.heap.size, 0, none⟩) (n + 1) (n + 1), .slice (some ⟨(w.heap.size + 1), 0, none⟩) (n + 1) (n + 1), .slice none 0 0] 68)) := (((Keep.refl _ w).alloc _).alloc _).alloc _
      have ho1 : (w.alloc (.cells (natsV (fun _ => 0) (n + 1)).toArray 3)).ownsRow 0 3 1 (.slice (some ⟨w.heap.size, 0, none⟩) (n + 1) (n + 1)) (n + 1) (natsV (fun _ => 0) (n + 1)) := owns_fresh w (Nat.zero_le _) (by simp) (by unfold maxLen; omega)
      have ho2 : ((w.alloc (.cells (natsV (fun _ => 0) (n + 1)).toArray 3)).alloc (.cells (boolsV (fun _ => false) (n + 1)).toArray 4)).ownsRow 0 4 1 (.slice (some ⟨w.heap.size + 1, 0, none⟩) (n + 1) (n + 1)) (n + 1) (boolsV (fun _ => false) (n + 1)) := by
        have := owns_fresh (w.alloc (.cells (natsV (fun _ => 0) (n + 1)).toArray 3)) (e := 4) (xs := boolsV (fun _ => false) (n + 1)) (n := n + 1) (Nat.zero_le _) (by simp) (by unfold maxLen; omega)
        simpa using this
      refine ⟨by simpa using hb, ?_, ?_, World.ownsRow_nil _ _ _ _, by simp [Value.ownBlock], by simp [Value.ownBlock], by simp [Value.ownBlock], by omega, by omega, by omega, by omega, by omega, by omega, hk⟩
      · have e : (fun i => if 1 ≤ i ∧ i ≤ 0 then 1 else 0) = fun _ : Nat => (0 : Nat) := by funext i; rw [if_neg (by omega)]
        rw [e]; exact (ho1.alloc _).alloc _
      · exact ho2.alloc _
    have HN := hid hNW.drew
    clear hNW
    go_wp2
    refine Plan.trQ_mk ?_ ?_
    · repeat (refine Plan.chk_st rfl ?_ ?_; focus (go_big_quiet_step (fail); exact wpQuiet_nil rfl))
      exact Plan.chk_end
    refine Plan.tr_ac rfl ?_
    go_wp2
    refine Plan.trQ_mk ?_ ?_
    · repeat (refine Plan.chk_st rfl ?_ ?_; focus (go_big_quiet_step (fail); exact wpQuiet_nil rfl))
      exact Plan.chk_end
    repeat (refine Plan.tr_st rfl ?_; go_big_quiet_step (fail); refine wpQuiet_nil ?_)
    refine Plan.tr_ac rfl ?_
    go_wp2
    refine Plan.trQ_mk ?_ ?_
    · exact Plan.chk_end
    repeat (refine Plan.tr_st rfl ?_; go_big_quiet_step (fail); refine wpQuiet_nil ?_)
    refine Plan.tr_end ?_
    clear hmi hmb
    go_wp2_with fail
    go_loopw [6] (fun i wr => ∃ (k : Nat) (v : Value), k ≤ n ∧ i = .int .i64 ((k : Int) + 1) ∧ NW w wr (w.heap.size + 1 + 1) w.heap.size (w.heap.size + 1) n most k v) (fun i _ => n + 1 - (intOf i).toNat)
    case atStart => exact ⟨0, _, Nat.zero_le _, by go_num, HN.out⟩
    case round =>
      clear HN
      obtain ⟨k, v, hk, rfl, hN⟩ := hrel
      by_cases hlt : k < n
      · have hs := hN.keep.size
        have hc1 : wr.cell? ⟨w.heap.size + 1 + 1, 1, none⟩ = some (.slice (some ⟨w.heap.size, 0, none⟩) (n + 1) (n + 1)) := cell_of hN.head (by simp)
        have hin : (0 : Int) ≤ (k : Int) + 1 ∧ (k : Int) + 1 < (n : Int) + 1 := ⟨by omega, by omega⟩
        have hg1 : wr.cell? ⟨w.heap.size, k + 1, none⟩ = some (iV (if 1 ≤ k + 1 ∧ k + 1 ≤ k then 1 else 0)) := by
          rw [owns_cell hN.gown (by omega)]; simp [show k + 1 < n + 1 by omega]
        have hf1 : wr.frozen? ⟨w.heap.size, k + 1, none⟩ = false := owns_free hN.gown _
        have hb1 : (wr.setCell ⟨w.heap.size, k + 1, none⟩ (.int .i64 1)).heap[w.heap.size + 1 + 1]? = some (.cells #[iV most, .slice (some ⟨w.heap.size, 0, none⟩) (n + 1) (n + 1), .slice (some ⟨(w.heap.size + 1), 0, none⟩) (n + 1) (n + 1), v] 68 (0, 0)) := (hsc_ne _ hN.bp).trans hN.head
        have hc3 : (wr.setCell ⟨w.heap.size, k + 1, none⟩ (.int .i64 1)).cell? ⟨w.heap.size + 1 + 1, 3, none⟩ = some v := cell_of hb1 (by simp)
        have hown : ((wr.setCell ⟨w.heap.size, k + 1, none⟩ (.int .i64 1)).alloc (.cells #[iV (k + 1)] 3)).ownsRow w.heap.size 3 1 v k ((List.range' 1 k).map iV) :=
          (owns_keep hN.fown (fun j hj => hsc_ne _ (fun e => hN.vp (by rw [hj, e])))).alloc _
        have hbl : w.heap.size + 1 + 1 < wr.heap.size := lt_of_heap hN.head
        have hvb := hN.vb
        have hnb : ((wr.setCell ⟨w.heap.size, k + 1, none⟩ (.int .i64 1)).alloc (.cells #[iV (k + 1)] 3)).heap[wr.heap.size]? = some (.cells #[iV (k + 1)] 3 (0, 0)) := by
          have := heap_alloc_new (wr.setCell ⟨w.heap.size, k + 1, none⟩ (.int .i64 1)) (.cells #[iV (k + 1)] 3)
          rwa [show (wr.setCell ⟨w.heap.size, k + 1, none⟩ (.int .i64 1)).heap.size = wr.heap.size by simp [World.setCell]] at this
        have HN := hid hN; have HO := hid hown; have HB := hid hb1; have HNB := hid hnb
        clear hN hown hb1 hnb
        go_wp2_with (first
          | (at_builtin
             refine wpList_append_rd rfl _ _ _ rfl w.heap.size _ i0 _ 1 8 Try.underlying66 hi0 hz0 hz1 hz2 rfl (by decide) _ k _ (by rfl) HO.out _ 1 [iV (k + 1)] (by rfl) (rd_block HNB.out (by simp) (by simp [Value.oneCell'])) (by unfold maxLen; omega) (by omega) (by simp [World.setCell]; omega) ?_
             intro v' w1 hown1 hgrow1 hat1 hn1
             obtain ⟨pv, cv, rfl⟩ := owns_val hown1
             have hstep := HN.out.step hlt hown1 hgrow1 hat1
             have hb1 : w1.heap[w.heap.size + 1 + 1]? = some (.cells #[iV most, .slice (some ⟨w.heap.size, 0, none⟩) (n + 1) (n + 1), .slice (some ⟨w.heap.size + 1, 0, none⟩) (n + 1) (n + 1), v] 68 (0, 0)) := by
               rw [hgrow1.block _ (by simp [World.setCell]; omega) (fun e => hvb e.symm)]
               exact (Below.heap_alloc _ _ _ (by simp [World.setCell]; omega)).trans HB.out
             have hd1 : w1.cell? ⟨w.heap.size + 1 + 1, 3, none⟩ = some v := cell_of hb1 (by simp)
             have hz1 : w1.frozen? ⟨w.heap.size + 1 + 1, 3, none⟩ = false := free_of hb1 3
             have HS := hid hstep
             clear hstep hown1 hgrow1 hat1 hn1 hb1))
        go_roundw
        case rel => exact ⟨k + 1, _, by omega, by go_num, HS.out⟩
        case measure => simp [intOf]; omega
      · obtain rfl : k = n := by omega
        obtain ⟨g, c, rfl⟩ : ∃ g c, v = .slice (some ⟨g, 0, none⟩) k c := by
          rcases owns_block hN.fown with ⟨_, e2, _⟩ | ⟨g, c, cur, e1, _⟩
          · omega
          · exact ⟨g, c, e1⟩
        have hfin : IX wr (w.heap.size + 1 + 1) g c w.heap.size (k + 1) (w.heap.size + 1) (k + 1) k most (fun i => if i = 0 then 0 else 1) (fun _ => false) (List.range' 1 k) ∧ w.heap.size ≤ g ∧ Keep (fun _ => False) w wr := by
          have hb := hN.vb; have hp := hN.vp; have hq := hN.vq
          simp [Value.ownBlock] at hb hp hq
          refine ⟨⟨⟨by simpa using hN.head, ?_, hN.lown, by simpa using owns_low hN.fown, hN.bp, hN.bq, Ne.symm hb, hN.pq, Ne.symm hp, Ne.symm hq⟩, Law.new h1 h2 m1 m2⟩, (hN.fown.lt g (by simp [Value.ownBlock])).1, hN.keep⟩
          have e : natsV (fun i => if i = 0 then 0 else 1) (k + 1) = natsV (fun i => if 1 ≤ i ∧ i ≤ k then 1 else 0) (k + 1) := by
            refine List.map_congr_left fun i hi => ?_
            simp only [List.mem_range] at hi
            by_cases e : i = 0
            · subst e; simp
            · simp only [if_neg e, if_pos (show 1 ≤ i ∧ i ≤ k by omega)]
          rw [e]; exact hN.gown
        have HF := hid hfin
        clear hfin hN
        go_wp2
        go_ret
        exact ⟨_, _, _, _, _, rfl, HF.out.1, by omega, HF.out.2.1, by omega, by omega, HF.out.2.2⟩
  · have hNW : NW w (((w.alloc (.cells (boolsV (fun _ => false) (n + 1)).toArray 4)).alloc (.cells (natsV (fun _ => 0) (n + 1)).toArray 3)).alloc (.cells #[iV most, .slice (some ⟨(w.heap.size + 1), 0, none⟩) (n + 1) (n + 1), .slice (some ⟨w.heap.size, 0, none⟩) (n + 1) (n + 1), .slice none 0 0] 68)) (w.heap.size + 1 + 1) (w.heap.size + 1) w.heap.size n most 0 (.slice none 0 0) := by
      have hb := heap_alloc_new ((w.alloc (.cells (boolsV (fun _ => false) (n + 1)).toArray 4)).alloc (.cells (natsV (fun _ => 0) (n + 1)).toArray 3)) (.cells #[iV most, .slice (some ⟨(w.heap.size + 1), 0, none⟩) (n + 1) (n + 1), .slice (some ⟨w.heap.size, 0, none⟩) (n + 1) (n + 1), .slice none 0 0] 68)
      have hk : Keep (fun _ => False) w (((w.alloc (.cells (boolsV (fun _ => false) (n + 1)).toArray 4)).alloc (.cells (natsV (fun _ => 0) (n + 1)).toArray 3)).alloc (.cells #[iV most, .slice (some ⟨(w.heap.size + 1), 0, none⟩) (n + 1) (n + 1), .slice (some ⟨w.heap.size, 0, none⟩) (n + 1) (n + 1), .slice none 0 0] 68)) := (((Keep.refl _ w).alloc _).alloc _).alloc _
      have ho1 : (w.alloc (.cells (boolsV (fun _ => false) (n + 1)).toArray 4)).ownsRow 0 4 1 (.slice (some ⟨w.heap.size, 0, none⟩) (n + 1) (n + 1)) (n + 1) (boolsV (fun _ => false) (n + 1)) := owns_fresh w (Nat.zero_le _) (by simp) (by unfold maxLen; omega)
      have ho2 : ((w.alloc (.cells (boolsV (fun _ => false) (n + 1)).toArray 4)).alloc (.cells (natsV (fun _ => 0) (n + 1)).toArray 3)).ownsRow 0 3 1 (.slice (some ⟨w.heap.size + 1, 0, none⟩) (n + 1) (n + 1)) (n + 1) (natsV (fun _ => 0) (n + 1)) := by
        have := owns_fresh (w.alloc (.cells (boolsV (fun _ => false) (n + 1)).toArray 4)) (e := 3) (xs := natsV (fun _ => 0) (n + 1)) (n := n + 1) (Nat.zero_le _) (by simp) (by unfold maxLen; omega)
        simpa using this
      refine ⟨by simpa using hb, ?_, ?_, World.ownsRow_nil _ _ _ _, by simp [Value.ownBlock], by simp [Value.ownBlock], by simp [Value.ownBlock], by omega, by omega, by omega, by omega, by omega, by omega, hk⟩
      · have e : (fun i => if 1 ≤ i ∧ i ≤ 0 then 1 else 0) = fun _ : Nat => (0 : Nat) := by funext i; rw [if_neg (by omega)]
        rw [e]; exact ho2.alloc _
      · exact (ho1.alloc _).alloc _
    have HN := hid hNW.drew
    clear hNW
    go_wp2
    refine Plan.trQ_mk ?_ ?_
    · repeat (refine Plan.chk_st rfl ?_ ?_; focus (go_big_quiet_step (fail); exact wpQuiet_nil rfl))
      exact Plan.chk_end
    refine Plan.tr_ac rfl ?_
    go_wp2
    refine Plan.trQ_mk ?_ ?_
    · repeat (refine Plan.chk_st rfl ?_ ?_; focus (go_big_quiet_step (fail); exact wpQuiet_nil rfl))
      exact Plan.chk_end
    repeat (refine Plan.tr_st rfl ?_; go_big_quiet_step (fail); refine wpQuiet_nil ?_)
    refine Plan.tr_ac rfl ?_
    go_wp2
    refine Plan.trQ_mk ?_ ?_
    · exact Plan.chk_end
    repeat (refine Plan.tr_st rfl ?_; go_big_quiet_step (fail); refine wpQuiet_nil ?_)
    refine Plan.tr_end ?_
    clear hmi hmb
    go_wp2_with fail
    go_loopw [6] (fun i wr => ∃ (k : Nat) (v : Value), k ≤ n ∧ i = .int .i64 ((k : Int) + 1) ∧ NW w wr (w.heap.size + 1 + 1) (w.heap.size + 1) w.heap.size n most k v) (fun i _ => n + 1 - (intOf i).toNat)
    case atStart => exact ⟨0, _, Nat.zero_le _, by go_num, HN.out⟩
    case round =>
      clear HN
      obtain ⟨k, v, hk, rfl, hN⟩ := hrel
      by_cases hlt : k < n
      · have hs := hN.keep.size
        have hc1 : wr.cell? ⟨w.heap.size + 1 + 1, 1, none⟩ = some (.slice (some ⟨(w.heap.size + 1), 0, none⟩) (n + 1) (n + 1)) := cell_of hN.head (by simp)
        have hin : (0 : Int) ≤ (k : Int) + 1 ∧ (k : Int) + 1 < (n : Int) + 1 := ⟨by omega, by omega⟩
        have hg1 : wr.cell? ⟨(w.heap.size + 1), k + 1, none⟩ = some (iV (if 1 ≤ k + 1 ∧ k + 1 ≤ k then 1 else 0)) := by
          rw [owns_cell hN.gown (by omega)]; simp [show k + 1 < n + 1 by omega]
        have hf1 : wr.frozen? ⟨(w.heap.size + 1), k + 1, none⟩ = false := owns_free hN.gown _
        have hb1 : (wr.setCell ⟨(w.heap.size + 1), k + 1, none⟩ (.int .i64 1)).heap[w.heap.size + 1 + 1]? = some (.cells #[iV most, .slice (some ⟨(w.heap.size + 1), 0, none⟩) (n + 1) (n + 1), .slice (some ⟨w.heap.size, 0, none⟩) (n + 1) (n + 1), v] 68 (0, 0)) := (hsc_ne _ hN.bp).trans hN.head
        have hc3 : (wr.setCell ⟨(w.heap.size + 1), k + 1, none⟩ (.int .i64 1)).cell? ⟨w.heap.size + 1 + 1, 3, none⟩ = some v := cell_of hb1 (by simp)
        have hown : ((wr.setCell ⟨(w.heap.size + 1), k + 1, none⟩ (.int .i64 1)).alloc (.cells #[iV (k + 1)] 3)).ownsRow w.heap.size 3 1 v k ((List.range' 1 k).map iV) :=
          (owns_keep hN.fown (fun j hj => hsc_ne _ (fun e => hN.vp (by rw [hj, e])))).alloc _
        have hbl : w.heap.size + 1 + 1 < wr.heap.size := lt_of_heap hN.head
        have hvb := hN.vb
        have hnb : ((wr.setCell ⟨w.heap.size + 1, k + 1, none⟩ (.int .i64 1)).alloc (.cells #[iV (k + 1)] 3)).heap[wr.heap.size]? = some (.cells #[iV (k + 1)] 3 (0, 0)) := by
          have := heap_alloc_new (wr.setCell ⟨w.heap.size + 1, k + 1, none⟩ (.int .i64 1)) (.cells #[iV (k + 1)] 3)
          rwa [show (wr.setCell ⟨w.heap.size + 1, k + 1, none⟩ (.int .i64 1)).heap.size = wr.heap.size by simp [World.setCell]] at this
        have HN := hid hN; have HO := hid hown; have HB := hid hb1; have HNB := hid hnb
        clear hN hown hb1 hnb
        go_wp2_with (first
          | (at_builtin
             refine wpList_append_rd rfl _ _ _ rfl w.heap.size _ i0 _ 1 8 Try.underlying66 hi0 hz0 hz1 hz2 rfl (by decide) _ k _ (by rfl) HO.out _ 1 [iV (k + 1)] (by rfl) (rd_block HNB.out (by simp) (by simp [Value.oneCell'])) (by unfold maxLen; omega) (by omega) (by simp [World.setCell]; omega) ?_
             intro v' w1 hown1 hgrow1 hat1 hn1
             obtain ⟨pv, cv, rfl⟩ := owns_val hown1
             have hstep := HN.out.step hlt hown1 hgrow1 hat1
             have hb1 : w1.heap[w.heap.size + 1 + 1]? = some (.cells #[iV most, .slice (some ⟨w.heap.size + 1, 0, none⟩) (n + 1) (n + 1), .slice (some ⟨w.heap.size, 0, none⟩) (n + 1) (n + 1), v] 68 (0, 0)) := by
               rw [hgrow1.block _ (by simp [World.setCell]; omega) (fun e => hvb e.symm)]
               exact (Below.heap_alloc _ _ _ (by simp [World.setCell]; omega)).trans HB.out
             have hd1 : w1.cell? ⟨w.heap.size + 1 + 1, 3, none⟩ = some v := cell_of hb1 (by simp)
             have hz1 : w1.frozen? ⟨w.heap.size + 1 + 1, 3, none⟩ = false := free_of hb1 3
             have HS := hid hstep
             clear hstep hown1 hgrow1 hat1 hn1 hb1))
        go_roundw
        case rel => exact ⟨k + 1, _, by omega, by go_num, HS.out⟩
        case measure => simp [intOf]; omega
      · obtain rfl : k = n := by omega
        obtain ⟨g, c, rfl⟩ : ∃ g c, v = .slice (some ⟨g, 0, none⟩) k c := by
          rcases owns_block hN.fown with ⟨_, e2, _⟩ | ⟨g, c, cur, e1, _⟩
          · omega
          · exact ⟨g, c, e1⟩
        have hfin : IX wr (w.heap.size + 1 + 1) g c (w.heap.size + 1) (k + 1) w.heap.size (k + 1) k most (fun i => if i = 0 then 0 else 1) (fun _ => false) (List.range' 1 k) ∧ w.heap.size ≤ g ∧ Keep (fun _ => False) w wr := by
          have hb := hN.vb; have hp := hN.vp; have hq := hN.vq
          simp [Value.ownBlock] at hb hp hq
          refine ⟨⟨⟨by simpa using hN.head, ?_, hN.lown, by simpa using owns_low hN.fown, hN.bp, hN.bq, Ne.symm hb, hN.pq, Ne.symm hp, Ne.symm hq⟩, Law.new h1 h2 m1 m2⟩, (hN.fown.lt g (by simp [Value.ownBlock])).1, hN.keep⟩
          have e : natsV (fun i => if i = 0 then 0 else 1) (k + 1) = natsV (fun i => if 1 ≤ i ∧ i ≤ k then 1 else 0) (k + 1) := by
            refine List.map_congr_left fun i hi => ?_
            simp only [List.mem_range] at hi
            by_cases e : i = 0
            · subst e; simp
            · simp only [if_neg e, if_pos (show 1 ≤ i ∧ i ≤ k by omega)]
          rw [e]; exact hN.gown
        have HF := hid hfin
        clear hfin hN
        go_wp2
        go_ret
        exact ⟨_, _, _, _, _, rfl, HF.out.1, by omega, HF.out.2.1, by omega, by omega, HF.out.2.2⟩

end Go.Proofs.Ytmckidhedogcaaa
