/- What is proved: 'awake' of the entity's statements returns true. -/
import Derived.Test.YtmckidhedogcaaaEntTop
namespace Go.Proofs.Ytmckidhedogcaaa
open Go.RowKit Go.Proofs.Heap Go.Proofs.HeapLaw

abbrev G0 : Nat → Nat := fun i => if i = 0 then 0 else 1
abbrev L0 : Nat → Bool := fun _ => false

set_option maxRecDepth 100000 in
set_option maxHeartbeats 2000000 in
theorem awake_true (w : World) : Calls Try.prog 7 #[] w fun e w' => e = .returned (.bool true) ∧ Keep (fun _ => False) w w' := by
  go_enter Try.func7, Try.ntmps7
  go_wp2_with fail
  refine (xt_new 2 1 w (by omega) (by omega) (by omega) (by omega) _ _ (by simp) (by simp)).mono ?_
  rintro e w1 ⟨S, b, rfl, h1, hS, hk1⟩
  have hb0 : ∀ {w : World} {S : List Nat} {b n most : Nat} {G : Nat → Nat} {L : Nat → Bool} {F : List Nat}, XT w S b n most G L F → b ∈ S := by
    rintro w S b n most G L F ⟨_, _, _, _, _, _, _, rfl⟩; simp
  have h1' : XT w1 S b 2 1 G0 L0 [1, 2] := h1
  have H := hid h1'; have HS := hid hS; have HK := hid hk1
  clear h1 h1' hS hk1
  go_wp2_with fail
  refine (xt_spawn H.out (by simp) 1 rfl 4294967297 (by decide)).mono ?_
  rintro e w2 ⟨rfl, F2, h2, hk2⟩
  have h2 := h2.set (h2.one (x := 2) (by decide))
  have hk := keep_new HK.out hk2 HS.out
  have H2 := hid h2; have HK2 := hid hk
  clear h2 hk2 hk H HK
  go_wp2_with fail
  refine (xt_spawn H2.out (by simp) 2 rfl 4294967298 (by decide)).mono ?_
  rintro e w3 ⟨rfl, F3, h3, hk3⟩
  have h3 := h3.set (h3.none (by decide))
  have hk := keep_new HK2.out hk3 HS.out
  have H3 := hid h3; have HK3 := hid hk
  clear h3 hk3 hk H2 HK2
  go_wp2_with fail
  refine (xt_kill H3.out 4294967297 (by omega) (by decide) 1 (by decide) _ (by simp)).mono ?_
  rintro e w4 ⟨rfl, S4, F4, h4, hS4, hk4⟩
  have h4 := h4.set (h4.none (by decide))
  have hk := keep_new HK3.out hk4 HS.out
  have hs4 : ∀ k ∈ S4, w.heap.size ≤ k := fun k hk => by rcases hS4 k hk with h | h; exact HS.out k h; have := HK3.out.size; omega
  have H4 := hid h4; have HK4 := hid hk; have HS4 := hid hs4
  clear h4 hk4 hk H3 HK3 hS4 hs4
  go_wp2_with fail
  refine (xt_kill_no H4.out 4294967297 (by omega) (by decide) _ (by simp)).mono ?_
  rintro e w5 ⟨rfl, hk5⟩
  have H5 := hid (H4.out.keep0 hk5); have HK5 := hid (HK4.out.trans hk5)
  clear hk5 H4 HK4
  go_wp2_with fail
  refine (xt_spawn_full H5.out rfl).mono ?_
  rintro e w6 ⟨rfl, rfl⟩
  go_wp2_with fail
  refine (xt_new 1 2 w5 (by omega) (by omega) (by omega) (by omega) _ _ (by simp) (by simp)).mono ?_
  rintro e w7 ⟨T, y, rfl, h7, hT, hk7⟩
  have h7' : XT w7 T y 1 2 G0 L0 [1] := h7
  have HX := hid (H5.out.keep0 hk7); have H7 := hid h7'; have HT := hid hT; have HK7 := hid (HK5.out.trans hk7); have HX5 := hid H5.out.lt
  have hsz5 := HK5.out.size
  have hsz7 := hk7.size
  clear h7 h7' hk7 H5 HK5 hT
  go_wp2_with fail
  refine (xt_spawn H7.out (by simp) 1 rfl 4294967297 (by decide)).mono ?_
  rintro e w8 ⟨rfl, F8, h8, hk8⟩
  have hsz8 := hk8.size
  have h8 := h8.set (h8.none (by decide))
  have HX8 := hid (HX.out.keep hk8 (fun k hk hk2 => by have := HX5.out k hk; have := HT.out k hk2; omega))
  have HK8 := hid (keep_new HK7.out hk8 (fun k hk => by have := HT.out k hk; omega)); have H8 := hid h8
  clear h8 hk8 H7 HK7 HX
  go_wp2_with fail
  refine (xt_kill H8.out 4294967297 (by omega) (by decide) 1 (by decide) _ (by simp)).mono ?_
  rintro e w9 ⟨rfl, T9, F9, h9, hT9, hk9⟩
  have h9 := h9.set (h9.one (x := 1) (by decide))
  have HX9 := hid (HX8.out.keep hk9 (fun k hk hk2 => by have := HX5.out k hk; have := HT.out k hk2; omega))
  have HT9 := hid (show ∀ k ∈ T9, w5.heap.size ≤ k from fun k hk => by rcases hT9 k hk with h | h; exact HT.out k h; exact Nat.le_trans (Nat.le_trans hsz7 hsz8) h)
  have HK9 := hid (keep_new HK8.out hk9 (fun k hk => by have := HT.out k hk; omega)); have H9 := hid h9
  clear h9 hk9 hT9 H8 HK8 HX8
  go_wp2_with fail
  refine (xt_spawn H9.out (by simp) 1 rfl 8589934593 (by decide)).mono ?_
  rintro e w10 ⟨rfl, F10, h10, hk10⟩
  have HX10 := hid (HX9.out.keep hk10 (fun k hk hk2 => by have := HX5.out k hk; have := HT9.out k hk2; omega))
  have HK10 := hid (keep_new HK9.out hk10 (fun k hk => by have := HT9.out k hk; omega))
  clear h10 hk10 H9 HK9 HX9
  go_wp2_with fail
  have hc := xt_count HX10.out
  rw [show (liveIds (upd (upd (upd L0 1 true) 2 true) 1 false) (2 + 1)).length = 1 by decide] at hc
  refine hc.mono ?_
  rintro e w11 ⟨rfl, hk11⟩
  have HX11 := hid (HX10.out.keep0 hk11); have HK11 := hid (HK10.out.trans hk11)
  clear hk11 hc HX10 HK10
  go_wp2_with fail
  refine (xt_free HX11.out).mono ?_
  rintro e w12 ⟨rfl, rfl⟩
  go_wp2_with fail
  refine (idN 8589934593 w11 (by omega)).mono ?_
  rintro e w12 ⟨rfl, rfl⟩
  go_wp2_with fail
  refine (genN 8589934593 w11 (by omega)).mono ?_
  rintro e w12 ⟨rfl, rfl⟩
  go_wp2_with fail
  refine (x_new_no 0 1 w11 (by omega)).mono ?_
  rintro e w12 ⟨rfl, rfl⟩
  go_wp2
  go_ret
  exact ⟨rfl, HK11.out⟩

end Go.Proofs.Ytmckidhedogcaaa
