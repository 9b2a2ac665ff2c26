/- What is proved: what Put of the field's layer answers: an element's bytes. -/
import Derived.Test.YtkgkcnmnfhehfaaOct
import Derived.Test.YtkgkcnmnfhehfaaWide2
import Derived.Test.YtkgkcnmnfhehfaaBox
import Derived.Test.YtkgkcnmnfhehfaaRes
namespace Go.Proofs.Ytkgkcnmnfhehfaa
open Go.RowKit Go.Proofs.Heap Go.Proofs.Sch Go.Proofs.Wide

theorem results_tt' {fn : Func} {p u : Tmp} (h : fn.results = #[.tmp p, .tmp u]) (tmps : Array Value) {P : Program} {w : World} : (results fn tmps).run P w = .ok (.tuple #[tmps.getD p undef, tmps.getD u undef]) w := by
  unfold results
  rw [h]
  simp
/-- The word that stands for a number. -/
def wordN (x : WI) : Nat := if x.neg = true then (18446744073709551616 - x.lo) % 18446744073709551616 else x.lo
/-- An element's bytes. -/
def putL (k : Int) (x : WI) : List UInt8 := leL (szN k) (wordN x % 256 ^ szN k)
def putS (k : Int) (x : WI) : ByteArray := if fitsB k x = true then ⟨(putL k x).toArray⟩ else ⟨#[]⟩
/-- The error of an element. -/
def putE (k : Int) (x : WI) : Nat := if kindB k = false then 1 else if fitsB k x = false then 3 else 0
theorem wordN_lt {x : WI} (h : x.fit) : wordN x < 18446744073709551616 := by
  unfold wordN
  split
  · omega
  · exact h.2
theorem wrap_neg (n : Nat) (h : n < 18446744073709551616) : IntKind.u64.wrap (-(n : Int)) = (((18446744073709551616 - n) % 18446744073709551616 : Nat) : Int) := by
  have : IntKind.u64.wrap (-(n : Int)) = (-(n : Int)) % 18446744073709551616 := by simp [IntKind.wrap, IntKind.bits, IntKind.signed]
  omega
theorem size_cases {k : Int} (h1 : 1 ≤ k) (h2 : k ≤ 10) : sizeK k = 1 ∨ sizeK k = 2 ∨ sizeK k = 4 ∨ sizeK k = 8 := by
  unfold sizeK
  omega
theorem and_pow (n k : Nat) (hn : n < 18446744073709551616) (hk : k = 8 ∨ k = 16 ∨ k = 32 ∨ k = 64) : bits .and .u64 (n : Int) ((2 ^ k - 1 : Nat) : Int) = ((n % 2 ^ k : Nat) : Int) := by
  have h := bits_mask .u64 64 (by decide) wraps64 k (by omega) (n : Int) (by omega) (by omega)
  have e : ((2 : Int) ^ k - 1) = ((2 ^ k - 1 : Nat) : Int) := by
    rcases hk with rfl | rfl | rfl | rfl <;> rfl
  rw [← e, h]
  rcases hk with rfl | rfl | rfl | rfl <;> simp

set_option maxRecDepth 20000 in
set_option maxHeartbeats 8000000 in
theorem f_put (k : Int) (x : WI) (hx : x.fit) (w : World) : Calls Try.prog 32 #[.int .i64 k, WV x] w fun r w' => r = .returned (.tuple #[.string (putS k x), iV (putE k x)]) ∧ Keep (fun _ => False) w w' := by
  obtain ⟨w3, hw3, hb3, hs3, hk3⟩ := box1 w (WC x) 57
  have HK := hid hk3
  have HX := hid hx
  clear hs3 hk3 hx
  go_enter Try.func32, Try.ntmps32
  go_upto_block 0 with fail
  rw [← hw3]
  clear hw3
  generalize w.heap.size = sb at *
  have HW : Hid (∀ wy, Keep (fun _ => False) w3 wy → wy.cell? ⟨sb, 0, none⟩ = some (.bool x.neg) ∧ wy.cell? ⟨sb, 1, none⟩ = some (.int .u64 (x.hi : Int)) ∧ wy.cell? ⟨sb, 2, none⟩ = some (.int .u64 (x.lo : Int))) := hid (fun wy hk =>
    ⟨cell_of (hk.get hb3 id) (by rfl), cell_of (hk.get hb3 id) (by rfl), cell_of (hk.get hb3 id) (by rfl)⟩)
  clear hb3
  obtain ⟨s0, s1, s2⟩ := HW.out _ (Keep.refl _ w3)
  go_wp2_with fail
  refine (is_kind k _).mono ?_
  rintro r w_ ⟨rfl, rfl⟩
  cases hkd : kindB k
  · have G1 : Hid (putS k x = ⟨#[]⟩) := hid (by unfold putS fitsB; rw [hkd]; rfl)
    have G2 : Hid (putE k x = 1) := hid (by unfold putE; rw [hkd]; rfl)
    clear hkd
    go_wp2
    (try simp only [Exit.inBlock, Exit.then])
    refine bodyPost_ret (results_tt' rfl _) rfl ?_
    rw [G1.out, G2.out]
    exact ⟨rfl, HK.out⟩
  go_wp2_with fail
  refine (f_fits k x HX.out _).mono ?_
  rintro r w4 ⟨rfl, hk4⟩
  have HK4 := hid hk4
  clear hk4 s0 s1 s2
  cases hft : fitsB k x
  · have G1 : Hid (putS k x = ⟨#[]⟩) := hid (by unfold putS; rw [hft]; rfl)
    have G2 : Hid (putE k x = 3) := hid (by unfold putE; rw [hkd, hft]; rfl)
    clear hkd hft
    go_wp2
    (try simp only [Exit.inBlock, Exit.then])
    refine bodyPost_ret (results_tt' rfl _) rfl ?_
    rw [G1.out, G2.out]
    exact ⟨rfl, HK.out.trans HK4.out⟩
  have G1 : Hid (putS k x = ⟨(putL k x).toArray⟩) := hid (by unfold putS; rw [hft]; rfl)
  have G2 : Hid (putE k x = 0) := hid (by unfold putE; rw [hkd, hft]; rfl)
  have hk10 : 1 ≤ k ∧ k ≤ 10 := of_decide_eq_true hkd
  have HSZ := hid (size_cases hk10.1 hk10.2)
  have HN := hid (wordN_lt HX.out)
  have hlo : x.lo < 18446744073709551616 := HX.out.2
  clear hkd hft hk10
  obtain ⟨s0, s1, s2⟩ := HW.out _ HK4.out
  go_upto_if 20 with fail
  go_cut [6] from 20 to 23 (fun v wx => v = .int .u64 (wordN x : Int) ∧ w4 = wx)
  case first =>
    obtain ⟨ng, hi, lo⟩ := x
    simp only at s0 s1 s2 hlo
    cases ng
    · go_wp2
      go_meet
      case rel => exact ⟨rfl, rfl⟩
    · have hwr := wrap_neg lo hlo
      go_wp2
      go_meet
      case rel => exact ⟨by first | rfl | (rw [show wordN ⟨true, hi, lo⟩ = (18446744073709551616 - lo) % 18446744073709551616 from rfl, ← hwr]), rfl⟩
  case rest =>
  obtain ⟨rfl, rfl⟩ := hcut
  clear s0 s1 s2
  have HQ := hid (wordN_lt HX.out)
  have HPL : Hid (putL k x = leL (szN k) (wordN x % 256 ^ szN k)) := hid rfl
  have HSC := hid (sz_cast k)
  generalize wordN x = n at *
  obtain ⟨w5, hw5, hb5, hs5, hk5⟩ := box1 w4 #[.slice none 0 0] 103
  have HK5 := hid (HK4.out.trans hk5)
  have HWS : Hid (WrS w5 w4.heap.size w4.heap.size (.slice none 0 0) []) := hid ⟨hb5, World.ownsRow_nil _ _ _ _, by simp [Value.ownBlock], Nat.le_refl _⟩
  have HB45 := hid hk5.size
  clear hb5 hs5 hk5
  go_upto_region 9 with fail
  rw [← hw5]
  clear hw5
  generalize hq : w4.heap.size = q at *
  have HQ4 := hid hq
  clear hq
  go_wp2_with fail
  refine (size_of k _).mono ?_
  rintro r w6 ⟨rfl, hk6⟩
  have HK6 := hid (HK5.out.trans hk6)
  have HWS6 : Hid (WrS w6 q q (.slice none 0 0) []) := hid ⟨hk6.get HWS.out.block id, World.ownsRow_nil _ _ _ _, HWS.out.ne, Nat.le_refl _⟩
  clear hk6
  rw [HSC.out]
  go_wp2_with fail
  refine (size_of k _).mono ?_
  rintro r w7 ⟨rfl, hk7⟩
  have HK7 := hid (HK6.out.trans hk7)
  have HWS7 : Hid (WrS w7 q q (.slice none 0 0) []) := hid ⟨hk7.get HWS6.out.block id, World.ownsRow_nil _ _ _ _, HWS.out.ne, Nat.le_refl _⟩
  clear hk7
  have hsz := HSZ.out
  rw [HSC.out] at hsz ⊢
  generalize szN k = z at *
  by_cases h1 : z = 1
  · obtain rfl : z = 1 := by omega
    clear hsz
    go_wp2_with fail
    refine (f_power 8 (by omega) _).mono ?_
    rintro r w_ ⟨rfl, rfl⟩
    obtain ⟨nm, hnm⟩ : ∃ nm, n % 256 = nm := ⟨_, rfl⟩
    have hnl : nm < 256 := by rw [← hnm]; exact Nat.mod_lt _ (by decide)
    have hand : bits .and .u64 (n : Int) 255 = (nm : Int) := by rw [← hnm]; exact and_pow n 8 HQ.out (by omega)
    have HPM : Hid (putL k x = leL 1 nm) := hid (by rw [HPL.out, ← hnm])
    clear hnm
    go_wp2_with fail
    clear hand
    have hnum := oct_num1 nm hnl q q (.slice none 0 0) [] w7 (by simp) HWS7.out
    refine hnum.mono ?_
    clear hnum
    rintro r w8 ⟨sv, rfl, hwn⟩
    have HWN := hid hwn
    have HK8 : Hid (Keep (fun _ => False) w3 w8) := hid (keep_new HK7.out hwn.keep (fun g hg => by
      rcases hg with rfl | hg
      · have := HK4.out.size; have := HQ4.out; omega
      · cases hg))
    clear hwn
    go_wp2_with fail
    refine (wr_string q q sv _ _ HWN.out.st).mono ?_
    rintro r w9 ⟨rfl, rfl⟩
    go_wp2
    (try simp only [Exit.inBlock, Exit.then])
    refine bodyPost_ret (results_tt' rfl _) rfl ?_
    rw [G1.out, G2.out, HPM.out]
    exact ⟨rfl, HK.out.trans HK8.out⟩
  by_cases h2 : z = 2
  · obtain rfl : z = 2 := by omega
    clear hsz
    go_wp2_with fail
    refine (f_power 16 (by omega) _).mono ?_
    rintro r w_ ⟨rfl, rfl⟩
    obtain ⟨nm, hnm⟩ : ∃ nm, n % 65536 = nm := ⟨_, rfl⟩
    have hnl : nm < 65536 := by rw [← hnm]; exact Nat.mod_lt _ (by decide)
    have hand : bits .and .u64 (n : Int) 65535 = (nm : Int) := by rw [← hnm]; exact and_pow n 16 HQ.out (by omega)
    have HPM : Hid (putL k x = leL 2 nm) := hid (by rw [HPL.out, ← hnm])
    clear hnm
    go_wp2_with fail
    clear hand
    have hnum := oct_num2 nm hnl q q (.slice none 0 0) [] w7 (by simp) HWS7.out
    refine hnum.mono ?_
    clear hnum
    rintro r w8 ⟨sv, rfl, hwn⟩
    have HWN := hid hwn
    have HK8 : Hid (Keep (fun _ => False) w3 w8) := hid (keep_new HK7.out hwn.keep (fun g hg => by
      rcases hg with rfl | hg
      · have := HK4.out.size; have := HQ4.out; omega
      · cases hg))
    clear hwn
    go_wp2_with fail
    refine (wr_string q q sv _ _ HWN.out.st).mono ?_
    rintro r w9 ⟨rfl, rfl⟩
    go_wp2
    (try simp only [Exit.inBlock, Exit.then])
    refine bodyPost_ret (results_tt' rfl _) rfl ?_
    rw [G1.out, G2.out, HPM.out]
    exact ⟨rfl, HK.out.trans HK8.out⟩
  by_cases h4 : z = 4
  · obtain rfl : z = 4 := by omega
    clear hsz
    go_wp2_with fail
    refine (f_power 32 (by omega) _).mono ?_
    rintro r w_ ⟨rfl, rfl⟩
    obtain ⟨nm, hnm⟩ : ∃ nm, n % 4294967296 = nm := ⟨_, rfl⟩
    have hnl : nm < 4294967296 := by rw [← hnm]; exact Nat.mod_lt _ (by decide)
    have hand : bits .and .u64 (n : Int) 4294967295 = (nm : Int) := by rw [← hnm]; exact and_pow n 32 HQ.out (by omega)
    have HPM : Hid (putL k x = leL 4 nm) := hid (by rw [HPL.out, ← hnm])
    clear hnm
    go_wp2_with fail
    clear hand
    have hnum := oct_num4 nm hnl q q (.slice none 0 0) [] w7 (by simp) HWS7.out
    refine hnum.mono ?_
    clear hnum
    rintro r w8 ⟨sv, rfl, hwn⟩
    have HWN := hid hwn
    have HK8 : Hid (Keep (fun _ => False) w3 w8) := hid (keep_new HK7.out hwn.keep (fun g hg => by
      rcases hg with rfl | hg
      · have := HK4.out.size; have := HQ4.out; omega
      · cases hg))
    clear hwn
    go_wp2_with fail
    refine (wr_string q q sv _ _ HWN.out.st).mono ?_
    rintro r w9 ⟨rfl, rfl⟩
    go_wp2
    (try simp only [Exit.inBlock, Exit.then])
    refine bodyPost_ret (results_tt' rfl _) rfl ?_
    rw [G1.out, G2.out, HPM.out]
    exact ⟨rfl, HK.out.trans HK8.out⟩
  obtain rfl : z = 8 := by omega
  clear hsz
  go_wp2_with fail
  refine (f_power 64 (by omega) _).mono ?_
  rintro r w_ ⟨rfl, rfl⟩
  obtain ⟨nm, hnm⟩ : ∃ nm, n % 18446744073709551616 = nm := ⟨_, rfl⟩
  have hnl : nm < 18446744073709551616 := by rw [← hnm]; exact Nat.mod_lt _ (by decide)
  have hand : bits .and .u64 (n : Int) 18446744073709551615 = (nm : Int) := by rw [← hnm]; exact and_pow n 64 HQ.out (by omega)
  have HPM : Hid (putL k x = leL 8 nm) := hid (by rw [HPL.out, ← hnm])
  clear hnm
  go_wp2_with fail
  clear hand
  have hnum := oct_num8 nm hnl q q (.slice none 0 0) [] w7 (by simp) HWS7.out
  refine hnum.mono ?_
  clear hnum
  rintro r w8 ⟨sv, rfl, hwn⟩
  have HWN := hid hwn
  have HK8 : Hid (Keep (fun _ => False) w3 w8) := hid (keep_new HK7.out hwn.keep (fun g hg => by
    rcases hg with rfl | hg
    · have := HK4.out.size; have := HQ4.out; omega
    · cases hg))
  clear hwn
  go_wp2_with fail
  refine (wr_string q q sv _ _ HWN.out.st).mono ?_
  rintro r w9 ⟨rfl, rfl⟩
  go_wp2
  (try simp only [Exit.inBlock, Exit.then])
  refine bodyPost_ret (results_tt' rfl _) rfl ?_
  rw [G1.out, G2.out, HPM.out]
  exact ⟨rfl, HK.out.trans HK8.out⟩
end Go.Proofs.Ytkgkcnmnfhehfaa
