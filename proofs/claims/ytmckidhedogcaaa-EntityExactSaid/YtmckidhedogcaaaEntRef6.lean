/- What is proved: what New of the reference's index is. -/
import Derived.Test.YtmckidhedogcaaaEntRef4
namespace Go.Proofs.Ytmckidhedogcaaa
open Go.RowKit Go.Proofs.Heap Go.Proofs.HeapLaw

theorem results_c {fn : Func} {p : Tmp} {ty : TypeId} (h : fn.results = #[.cell p ty]) (tmps : Array Value) {P : Program} {w : World} {ad : Addr} {v : Value}
    (hp : tmps.getD p undef = .pointer (some ad)) (hl : (loadVar ty ad).run P w = .ok v w) : (results fn tmps).run P w = .ok v w := by
  have hp' : tmps[p]?.getD undef = .pointer (some ad) := by simpa using hp
  simp [results, h, hp', asAddr, hl]

set_option maxRecDepth 100000 in
set_option maxHeartbeats 4000000 in
theorem r_new (n most : Nat) (w : World) (h1 : 1 ≤ n) (h2 : n ≤ 256) :
    Calls Try.prog 22 #[iV n, iV most] w fun r w' => r = .returned (.agg (rC most n (fun i => if 1 ≤ i ∧ i ≤ n then 1 else 0) (fun _ => false) (fun _ => false))) ∧ Keep (fun _ => False) w w' := by
  have hz := zero_ref
  have hlist : (((rC 0 0 (fun _ => 0) (fun _ => false) (fun _ => false)).toList.set 0 (iV most)).set 772 (iV n)) = (rC most n (fun _ => 0) (fun _ => false) (fun _ => false)).toList := by
    have e1 := congrArg Array.toList (rC_g 0 0 (fun _ => 0) (fun _ => false) (fun _ => false) most)
    have e2 := congrArg Array.toList (rC_n most 0 (fun _ => 0) (fun _ => false) (fun _ => false) n)
    rw [Array.toList_setIfInBounds] at e1 e2
    rw [e1, e2]
  have hZ4 := RI.boxed (g := 0) (n := 0) (RG := fun _ => 0) (RL := fun _ => false) (RR := fun _ => false) w
  have hZ := hZ4.keep ((Keep.refl (fun _ => False) _).alloc (.cells (rC 0 0 (fun _ => 0) (fun _ => false) (fun _ => false)) 52)) id
  have hU := RI.boxed (g := 0) (n := 0) (RG := fun _ => 0) (RL := fun _ => false) (RR := fun _ => false) (w.alloc (.cells (rC 0 0 (fun _ => 0) (fun _ => false) (fun _ => false)) 52))
  have hsz : (w.alloc (.cells (rC 0 0 (fun _ => 0) (fun _ => false) (fun _ => false)) 52)).heap.size = w.heap.size + 1 := by simp
  rw [hsz] at hU
  have hk0 : Keep (fun _ => False) w ((w.alloc (.cells (rC 0 0 (fun _ => 0) (fun _ => false) (fun _ => false)) 52)).alloc (.cells (rC 0 0 (fun _ => 0) (fun _ => false) (fun _ => false)) 52)) := ((Keep.refl _ w).alloc _).alloc _
  obtain ⟨w2, hst, hU2, hk2⟩ := ref_store hU most n (fun _ => 0) (fun _ => false) (fun _ => false)
  have HZ := hid (hZ.keep hk2 (by omega)); have HU := hid hU2; have HK := hid (keep_new hk0 hk2 (fun k e => by omega))
  clear hZ4 hZ hU hsz hk0 hU2 hk2
  go_enter Try.func22, Try.ntmps22
  go_wp2_with fail
  clear hst hlist hz
  go_loopw [6] (fun i wr => ∃ k : Nat, k ≤ n ∧ i = .int .i64 ((k : Int) + 1) ∧ RI most n (fun i => if 1 ≤ i ∧ i ≤ k then 1 else 0) (fun _ => false) (fun _ => false) wr (w.heap.size + 1) ∧ RI 0 0 (fun _ => 0) (fun _ => false) (fun _ => false) wr w.heap.size ∧ Keep (fun _ => False) w wr) (fun i _ => n + 1 - (intOf i).toNat)
  case atStart =>
    refine ⟨0, by omega, by go_num, ?_, HZ.out, HK.out⟩
    have e : (fun i => if 1 ≤ i ∧ i ≤ 0 then 1 else 0) = fun _ : Nat => (0 : Nat) := by funext i; rw [if_neg (by omega)]
    rw [e]; exact HU.out
  case round =>
    clear HZ HU HK
    obtain ⟨k, hk, rfl, hU, hZ, hkeep⟩ := hrel
    by_cases hlt : k < n
    · have hin : (0 : Int) ≤ (k : Int) + 1 ∧ (k : Int) + 1 < 257 := ⟨by omega, by omega⟩
      have hc := hU.gen (k + 1) (by omega)
      have hf := hU.free (1 + (k + 1) * 3)
      have hU2 := hU.setGen (k + 1) (by omega) 1
      have hk2 : Keep (fun j => j = w.heap.size + 1) wr (wr.setCell ⟨w.heap.size + 1, 1 + (k + 1) * 3, none⟩ (iV 1)) := (Keep.refl (fun j => j = w.heap.size + 1) wr).setCell (p := ⟨w.heap.size + 1, 1 + (k + 1) * 3, none⟩) rfl _
      have e : upd (fun i => if 1 ≤ i ∧ i ≤ k then 1 else 0) (k + 1) 1 = fun i => if 1 ≤ i ∧ i ≤ k + 1 then 1 else 0 := by
        funext i
        unfold upd
        by_cases e : i = k + 1
        · subst e; simp
        · rw [if_neg e]
          have : (1 ≤ i ∧ i ≤ k) ↔ (1 ≤ i ∧ i ≤ k + 1) := by omega
          simp only [this]
      rw [e] at hU2
      have HU := hid hU2; have HZ := hid (hZ.keep hk2 (by omega)); have HK := hid (keep_new hkeep hk2 (fun j e => by omega))
      clear hU hU2 hZ hkeep hk2 e
      go_wp2
      go_roundw
      case rel => exact ⟨k + 1, by omega, by go_num, HU.out, HZ.out, HK.out⟩
      case measure => simp [intOf]; omega
    · obtain rfl : k = n := by omega
      obtain ⟨w6, hst, hZ6, hk6⟩ := ref_store hZ most k (fun i => if 1 ≤ i ∧ i ≤ k then 1 else 0) (fun _ => false) (fun _ => false)
      have hload6 := hZ6.load
      have HK6 := hid (keep_new hkeep hk6 (fun k e => by omega))
      have HU := hid hU
      clear hU hZ hkeep hk6 hZ6
      go_wp2_with (refine wpList_load_row rfl 52 _ rfl _ rfl _ _ _ _ HU.out Try.underlying52 rfl (by rw [info_ref, rC_size]) ?_)
      (try simp only [Exit.inBlock, Exit.then])
      refine bodyPost_ret (results_c rfl _ rfl hload6) rfl ?_
      exact ⟨rfl, HK6.out⟩

end Go.Proofs.Ytmckidhedogcaaa
