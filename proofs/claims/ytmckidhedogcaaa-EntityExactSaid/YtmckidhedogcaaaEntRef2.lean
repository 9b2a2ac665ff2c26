/- What is proved: what Free, Live and Alive of the reference's index are. -/
import Derived.Test.YtmckidhedogcaaaEntRef
import Derived.Test.YtmckidhedogcaaaEntHandles
namespace Go.Proofs.Ytmckidhedogcaaa
open Go.RowKit Go.Proofs.Heap Go.Proofs.HeapLaw

section
variable {g n : Nat} {RG : Nat → Nat} {RL RR : Nat → Bool}

def freeR (RL RR : Nat → Bool) (i : Nat) : Bool := decide (1 ≤ i) && (!RL i && !RR i)

set_option maxHeartbeats 1000000 in
theorem r_free (w : World) (hn : n ≤ 256) :
    Calls Try.prog 28 #[.agg (rC g n RG RL RR)] w fun r w' => r = .returned (iV ((List.range (n + 1)).filter (freeR RL RR)).length) ∧ Keep (fun _ => False) w w' := by
  have hR := RI.boxed (g := g) (n := n) (RG := RG) (RL := RL) (RR := RR) w
  have HR := hid hR
  clear hR
  have hrs : ∀ j, ((List.range (j + 1 + 1)).filter (freeR RL RR)).length = ((List.range (j + 1)).filter (freeR RL RR)).length + (if freeR RL RR (j + 1) = true then 1 else 0) := by
    intro j
    rw [List.range_succ (n := j + 1), List.filter_append, List.length_append]
    by_cases h : freeR RL RR (j + 1) = true
    · simp [h]
    · simp [h]
  have hr0 : ((List.range (0 + 1)).filter (freeR RL RR)).length = 0 := by simp [List.range_succ, freeR]
  have HRS := hid hrs; have HR0 := hid hr0
  clear hrs hr0
  go_enter Try.func28, Try.ntmps28
  go_wp2_with fail
  generalize hw1 : w.alloc (.cells (rC g n RG RL RR) 52) = w1 at HR
  have hk0 : Keep (fun _ => False) w w1 := by rw [← hw1]; exact (Keep.refl _ w).alloc _
  have HK0 := hid hk0
  clear hw1 hk0
  go_loopw [3, 4] (fun c i wr => ∃ k cn : Nat, k ≤ n ∧ i = .int .i64 ((k : Int) + 1) ∧ c = .int .i64 (cn : Int) ∧ cn ≤ k ∧ cn = ((List.range (k + 1)).filter (freeR RL RR)).length ∧ w1 = wr) (fun _ i _ => n + 1 - (intOf i).toNat)
  case atStart => exact ⟨0, 0, by omega, by go_num, by go_num, by omega, HR0.out.symm, rfl⟩
  case round =>
    obtain ⟨k, cn, hk, rfl, rfl, hcn, hcne, rfl⟩ := hrel
    have hcN := HR.out.cN
    have HC := hid hcne
    clear hcne
    by_cases hlt : k < n
    · have hc1 := HR.out.life (k + 1) (by omega)
      have hc2 := HR.out.ret (k + 1) (by omega)
      have hin : (0 : Int) ≤ (k : Int) + 1 ∧ (k : Int) + 1 < 257 := ⟨by omega, by omega⟩
      have hs := HRS.out k
      rw [← HC.out] at hs
      cases hL : RL (k + 1)
      · rw [hL] at hc1
        cases hRR : RR (k + 1)
        · rw [hRR] at hc2
          rw [show freeR RL RR (k + 1) = true by simp [freeR, hL, hRR], if_pos rfl] at hs
          have HS := hid hs
          clear hL hRR hs
          go_wp2
          go_roundw
          case rel => exact ⟨k + 1, cn + 1, by omega, by go_num, by go_num, by omega, HS.out.symm, by simp⟩
          case measure => simp [intOf]; omega
        · rw [hRR] at hc2
          rw [show freeR RL RR (k + 1) = false by simp [freeR, hRR], if_neg (by decide)] at hs
          have HS := hid hs
          clear hL hRR hs
          go_wp2
          go_roundw
          case rel => exact ⟨k + 1, cn, by omega, by go_num, by go_num, by omega, HS.out.symm, by simp⟩
          case measure => simp [intOf]; omega
      · rw [hL] at hc1
        rw [show freeR RL RR (k + 1) = false by simp [freeR, hL], if_neg (by decide)] at hs
        have HS := hid hs
        clear hL hs
        go_wp2
        go_roundw
        case rel => exact ⟨k + 1, cn, by omega, by go_num, by go_num, by omega, HS.out.symm, by simp⟩
        case measure => simp [intOf]; omega
    · obtain rfl : k = n := by omega
      go_wp2
      go_ret
      exact ⟨by rw [← HC.out]; simp, HK0.out⟩

theorem info_u64 : (Try.prog.info? 22).map (fun i => (i.zero, i.size, i.bytes)) = some (some (.int .u64 0), 1, 8) := by kernel_rfl

set_option maxHeartbeats 2000000 in
theorem r_live (w : World) (hn : n ≤ 256) (h0 : RL 0 = false) (hg : ∀ i, RG i ≤ 65536) (hg1 : ∀ i, RL i = true → 1 ≤ RG i) :
    Calls Try.prog 27 #[.agg (rC g n RG RL RR)] w fun r w' => ∃ v, r = .returned v ∧ w'.ownsRow w.heap.size 22 1 v (liveIds RL (n + 1)).length (liveV RG RL (n + 1)) ∧ Keep (fun _ => False) w w' := by
  obtain ⟨i0, hi0, hz0, hz1, hz2⟩ := info_parts info_u64
  have hR := RI.boxed (g := g) (n := n) (RG := RG) (RL := RL) (RR := RR) w
  have hRk := hR.keep (w' := (w.alloc (.cells (rC g n RG RL RR) 52)).alloc (.cells #[] 22)) ((Keep.refl (fun _ => False) _).alloc _) id
  have hown := owns_fresh (e := 22) (base := w.heap.size) (xs := []) (n := 0) (w.alloc (.cells (rC g n RG RL RR) 52)) (by simp) rfl (by unfold maxLen; omega)
  have hsz : (w.alloc (.cells (rC g n RG RL RR) 52)).heap.size = w.heap.size + 1 := by simp
  rw [hsz] at hown
  have HR := hid hRk; have HO := hid hown; have HG := hid hg; have HG1 := hid hg1; have H0 := hid h0
  clear hR hRk hown hg hg1 h0
  go_enter Try.func27, Try.ntmps27
  go_wp2_with fail
  generalize hw1 : (w.alloc (.cells (rC g n RG RL RR) 52)).alloc (.cells #[] 22) = w1 at HR
  have hk0 : Keep (fun _ => False) w w1 := by rw [← hw1]; exact ((Keep.refl _ w).alloc _).alloc _
  replace HO : Hid (w1.ownsRow w.heap.size 22 1 (.slice (some ⟨w.heap.size + 1, 0, none⟩) 0 0) 0 []) := by rw [← hw1]; exact HO.out
  have HK0 := hid hk0
  have hul : w.heap.size < w1.heap.size := by rw [← hw1]; simp; omega
  clear hw1 hk0 hsz
  have hl1 : liveIds RL (0 + 1) = [] := by simp [liveIds, List.range_succ, H0.out]
  have HL1 := hid hl1
  clear hl1
  go_loopw [3, 4] (fun out i wr => ∃ k : Nat, k ≤ n ∧ i = .int .i64 ((k : Int) + 1) ∧ wr.ownsRow w.heap.size 22 1 out (liveIds RL (k + 1)).length (liveV RG RL (k + 1)) ∧ out.ownBlock ≠ some w.heap.size ∧ RI g n RG RL RR wr w.heap.size ∧ Keep (fun _ => False) w wr) (fun _ i _ => n + 1 - (intOf i).toNat)
  case atStart => exact ⟨0, by omega, by go_num, by unfold liveV; rw [HL1.out]; exact HO.out, by simp [Value.ownBlock], HR.out, HK0.out⟩
  case round =>
    clear HR HO HK0
    obtain ⟨k, hk, rfl, hown, hob, hRI, hkeep⟩ := hrel
    have hcN := hRI.cN
    by_cases hlt : k < n
    · have hc1 := hRI.life (k + 1) (by omega)
      have hc2 := hRI.gen (k + 1) (by omega)
      have hin : (0 : Int) ≤ (k : Int) + 1 ∧ (k : Int) + 1 < 257 := ⟨by omega, by omega⟩
      cases hL : RL (k + 1)
      · rw [hL] at hc1
        have HO := hid hown; have HK := hid hkeep; have HRI := hid hRI; have HOB := hid hob
        clear hown hkeep hRI hob
        go_wp2
        go_roundw
        case rel => exact ⟨k + 1, by omega, by go_num, by rw [live_no RL (k + 1) hL, liveV_no RG RL (k + 1) hL]; exact HO.out, HOB.out, HRI.out, HK.out⟩
        case measure => simp [intOf]; omega
      · rw [hL] at hc1
        have hg1 := HG1.out (k + 1) hL
        have hg2 := HG.out (k + 1)
        have hof : ∀ w, Calls Try.prog 8 #[.int .i64 ((k : Int) + 1), .int .i64 (RG (k + 1) : Int)] w fun r w' => r = .returned (eV (hN (k + 1) (RG (k + 1)))) ∧ w = w' := by
          intro w
          have := ref_handle ((k : Int) + 1) (RG (k + 1)) w (by omega) (by omega) (by omega) (by omega)
          rwa [show handle ((k : Int) + 1) (RG (k + 1)) = ((hN (k + 1) (RG (k + 1)) : Nat) : Int) by unfold handle hN; omega] at this
        have hs := hkeep.size
        have hlen : (liveIds RL (k + 1)).length ≤ k + 1 := by have := List.length_filter_le RL (List.range (k + 1)); simpa using this
        have hrb : w.heap.size < wr.heap.size := hRI.lt
        have HO := hid hown; have HK := hid hkeep; have HRI := hid hRI; have HOB := hid hob; have HF := hid hof
        clear hown hkeep hRI hob hof
        go_wp2_with (first
          | (go_at_call 8; refine (HF.out _).mono ?_; rintro e w' ⟨rfl, rfl⟩)
          | (at_builtin; refine wpList_append_rd rfl _ _ _ rfl w.heap.size _ i0 _ 1 8 Try.underlying54 hi0 hz0 hz1 hz2 rfl (by decide) _ (liveIds RL (k + 1)).length _ (by rfl) (HO.out.alloc _) _ 1 [eV (hN (k + 1) (RG (k + 1)))] (by rfl) (rd_block (heap_alloc_new wr _) (by simp) (by simp [Value.oneCell'])) (by unfold maxLen; omega) (by omega) (by simp; omega) ?_; intro v' w5 hown1 hgrow1 hat1 _))
        have hgk : Keep (fun _ => False) w w5 := (HK.out.alloc _).grown hgrow1 (fun j hj => .inl (HO.out.lt j hj).1)
        have hri5 : RI g n RG RL RR w5 w.heap.size := by
          have e : w5.heap[w.heap.size]? = wr.heap[w.heap.size]? := (hgrow1.block _ (by simp; omega) (fun e => HOB.out e.symm)).trans (Below.heap_alloc _ _ _ hrb)
          unfold RI; rw [e]; exact HRI.out
        have hob5 : v'.ownBlock ≠ some w.heap.size := by
          rcases hat1 with e | e
          · rw [e]; exact HOB.out
          · rw [e]; intro h; injection h with h; simp at h; omega
        go_roundw
        case rel => exact ⟨k + 1, by omega, by go_num, by rw [live_yes RL (k + 1) hL, liveV_yes RG RL (k + 1) hL]; exact hown1, hob5, hri5, hgk⟩
        case measure => simp [intOf]; omega
    · obtain rfl : k = n := by omega
      have HO := hid hown; have HK := hid hkeep
      clear hown hkeep hRI hob
      go_wp2
      go_ret
      exact ⟨_, rfl, HO.out, HK.out⟩
end
end Go.Proofs.Ytmckidhedogcaaa
