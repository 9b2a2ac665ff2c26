/- What is proved: what Put of the field's layer answers: an element's bytes. -/
import Derived.Test.YtlhdofkgcbmnnaaGreatMSchFind
import Derived.Test.YtlhdofkgcbmnnaaGreatMWide2
import Derived.Test.YtlhdofkgcbmnnaaGreatMMapStr
import Derived.Test.YtlhdofkgcbmnnaaGreatMHeap
import Derived.Laws.BitsLemmas
namespace Go.Proofs.YtlhdofkgcbmnnaaGreat
open Go.RowKit Go.Proofs.Heap Go.Proofs.Sch Go.Proofs.Wide

theorem results_tt' {fn : Func} {p u : Tmp} (h : fn.results = #[.tmp p, .tmp u]) (tmps : Array Value) {P : Program} {w : World} : (results fn tmps).run P w = .ok (.tuple #[tmps.getD p undef, tmps.getD u undef]) w := by
  unfold results
  rw [h]
  simp
/-- The word that stands for a number. -/
def wordN (x : WI) : Nat := if x.neg = true then (18446744073709551616 - x.lo) % 18446744073709551616 else x.lo
/-- An element's bytes. -/
def putL (k : Int) (x : WI) : List UInt8 := leL (szN k) (wordN x % 256 ^ szN k)
def putS (k : Int) (x : WI) : ByteArray := if fitsB k x = true then ⟨(putL k x).toArray⟩ else ⟨#[]⟩
/-- The error of an element. -/
def putE (k : Int) (x : WI) : Nat := if kindB k = false then 1 else if fitsB k x = false then 3 else 0
theorem wordN_lt {x : WI} (h : x.fit) : wordN x < 18446744073709551616 := by
  unfold wordN
  split
  · omega
  · exact h.2
theorem wrap_neg (n : Nat) (h : n < 18446744073709551616) : IntKind.u64.wrap (-(n : Int)) = (((18446744073709551616 - n) % 18446744073709551616 : Nat) : Int) := by
  have : IntKind.u64.wrap (-(n : Int)) = (-(n : Int)) % 18446744073709551616 := by simp [IntKind.wrap, IntKind.bits, IntKind.signed]
  omega
theorem size_cases {k : Int} (h1 : 1 ≤ k) (h2 : k ≤ 10) : sizeK k = 1 ∨ sizeK k = 2 ∨ sizeK k = 4 ∨ sizeK k = 8 := by
  unfold sizeK
  omega
theorem and_pow (n k : Nat) (hn : n < 18446744073709551616) (hk : k = 8 ∨ k = 16 ∨ k = 32 ∨ k = 64) : bits .and .u64 (n : Int) ((2 ^ k - 1 : Nat) : Int) = ((n % 2 ^ k : Nat) : Int) := by
  have h := bits_mask .u64 64 (by decide) wraps64 k (by omega) (n : Int) (by omega) (by omega)
  have e : ((2 : Int) ^ k - 1) = ((2 ^ k - 1 : Nat) : Int) := by
    rcases hk with rfl | rfl | rfl | rfl <;> rfl
  rw [← e, h]
  rcases hk with rfl | rfl | rfl | rfl <;> simp

set_option maxRecDepth 20000 in
set_option maxHeartbeats 8000000 in
theorem f_put (k : Int) (x : WI) (hx : x.fit) (w : World) : Calls Tryz.prog 87 #[.int .i64 k, WV x] w fun r w' => r = .returned (.tuple #[.string (putS k x), iV (putE k x)]) ∧ Keep (fun _ => False) w w' := by
  obtain ⟨w3, hw3, hb3, hs3, hk3⟩ := box1 w (WC x) 86
  have HK := hid hk3
  have HX := hid hx
  clear hs3 hk3 hx
  go_enter Tryz.func87, Tryz.ntmps87
  go_upto_block 0 with fail
  rw [← hw3]
  clear hw3
  generalize w.heap.size = sb at *
  have HW : Hid (∀ wy, Keep (fun _ => False) w3 wy → wy.cell? ⟨sb, 0, none⟩ = some (.bool x.neg) ∧ wy.cell? ⟨sb, 1, none⟩ = some (.int .u64 (x.hi : Int)) ∧ wy.cell? ⟨sb, 2, none⟩ = some (.int .u64 (x.lo : Int))) := hid (fun wy hk =>
    ⟨cell_of (hk.get hb3 id) (by rfl), cell_of (hk.get hb3 id) (by rfl), cell_of (hk.get hb3 id) (by rfl)⟩)
  clear hb3
  obtain ⟨s0, s1, s2⟩ := HW.out _ (Keep.refl _ w3)
  go_wp2_with fail
  refine (is_kind k _).mono ?_
  rintro r w_ ⟨rfl, rfl⟩
  cases hkd : kindB k
  · have G1 : Hid (putS k x = ⟨#[]⟩) := hid (by unfold putS fitsB; rw [hkd]; rfl)
    have G2 : Hid (putE k x = 1) := hid (by unfold putE; rw [hkd]; rfl)
    clear hkd
    go_wp2
    (try simp only [Exit.inBlock, Exit.then])
    refine bodyPost_ret (results_tt' rfl _) rfl ?_
    rw [G1.out, G2.out]
    exact ⟨rfl, HK.out⟩
  go_wp2_with fail
  refine (f_fits k x HX.out _).mono ?_
  rintro r w4 ⟨rfl, hk4⟩
  have HK4 := hid hk4
  clear hk4 s0 s1 s2
  cases hft : fitsB k x
  · have G1 : Hid (putS k x = ⟨#[]⟩) := hid (by unfold putS; rw [hft]; rfl)
    have G2 : Hid (putE k x = 3) := hid (by unfold putE; rw [hkd, hft]; rfl)
    clear hkd hft
    go_wp2
    (try simp only [Exit.inBlock, Exit.then])
    refine bodyPost_ret (results_tt' rfl _) rfl ?_
    rw [G1.out, G2.out]
    exact ⟨rfl, HK.out.trans HK4.out⟩
  have G1 : Hid (putS k x = ⟨(putL k x).toArray⟩) := hid (by unfold putS; rw [hft]; rfl)
  have G2 : Hid (putE k x = 0) := hid (by unfold putE; rw [hkd, hft]; rfl)
  have hk10 : 1 ≤ k ∧ k ≤ 10 := of_decide_eq_true hkd
  have HSZ := hid (size_cases hk10.1 hk10.2)
  have HN := hid (wordN_lt HX.out)
  have hlo : x.lo < 18446744073709551616 := HX.out.2
  clear hkd hft hk10
  obtain ⟨s0, s1, s2⟩ := HW.out _ HK4.out
  go_upto_if 20 with fail
  go_cut [6] from 20 to 23 (fun v wx => v = .int .u64 (wordN x : Int) ∧ w4 = wx)
  case first =>
    obtain ⟨ng, hi, lo⟩ := x
    simp only at s0 s1 s2 hlo
    cases ng
    · go_wp2
      go_meet
      case rel => exact ⟨rfl, rfl⟩
    · have hwr := wrap_neg lo hlo
      go_wp2
      go_meet
      case rel => exact ⟨by first | rfl | (rw [show wordN ⟨true, hi, lo⟩ = (18446744073709551616 - lo) % 18446744073709551616 from rfl, ← hwr]), rfl⟩
  case rest =>
  obtain ⟨rfl, rfl⟩ := hcut
  clear s0 s1 s2
  have HQ := hid (wordN_lt HX.out)
  have HPL : Hid (putL k x = leL (szN k) (wordN x % 256 ^ szN k)) := hid rfl
  have HSC := hid (sz_cast k)
  generalize wordN x = n at *
  obtain ⟨w5, hw5, hb5, hs5, hk5⟩ := box1 w4 #[.slice none 0 0] 216
  have HK5 := hid (HK4.out.trans hk5)
  have HWS : Hid (WrS w5 w4.heap.size w4.heap.size (.slice none 0 0) []) := hid ⟨hb5, World.ownsRow_nil _ _ _ _, by simp [Value.ownBlock], Nat.le_refl _⟩
  have HB45 := hid hk5.size
  clear hb5 hs5 hk5
  go_upto_region 9 with fail
  rw [← hw5]
  clear hw5
  generalize hq : w4.heap.size = q at *
  have HQ4 := hid hq
  clear hq
  go_wp2_with fail
  refine (size_of k _).mono ?_
  rintro r w6 ⟨rfl, hk6⟩
  have HK6 := hid (HK5.out.trans hk6)
  have HWS6 : Hid (WrS w6 q q (.slice none 0 0) []) := hid ⟨hk6.get HWS.out.block id, World.ownsRow_nil _ _ _ _, HWS.out.ne, Nat.le_refl _⟩
  clear hk6
  rw [HSC.out]
  go_wp2_with fail
  refine (size_of k _).mono ?_
  rintro r w7 ⟨rfl, hk7⟩
  have HK7 := hid (HK6.out.trans hk7)
  have HWS7 : Hid (WrS w7 q q (.slice none 0 0) []) := hid ⟨hk7.get HWS6.out.block id, World.ownsRow_nil _ _ _ _, HWS.out.ne, Nat.le_refl _⟩
  clear hk7
  have hsz := HSZ.out
  rw [HSC.out] at hsz ⊢
  generalize szN k = z at *
  by_cases h1 : z = 1
  · obtain rfl : z = 1 := by omega
    clear hsz
    go_wp2_with fail
    refine (f_power 8 (by omega) _).mono ?_
    rintro r w_ ⟨rfl, rfl⟩
    obtain ⟨nm, hnm⟩ : ∃ nm, n % 256 = nm := ⟨_, rfl⟩
    have hnl : nm < 256 := by rw [← hnm]; exact Nat.mod_lt _ (by decide)
    have hand : bits .and .u64 (n : Int) 255 = (nm : Int) := by rw [← hnm]; exact and_pow n 8 HQ.out (by omega)
    have HPM : Hid (putL k x = leL 1 nm) := hid (by rw [HPL.out, ← hnm])
    clear hnm
    go_wp2_with fail
    clear hand
    have hnum := oct_num1 nm hnl q q (.slice none 0 0) [] w7 (by simp) HWS7.out
    refine hnum.mono ?_
    clear hnum
    rintro r w8 ⟨sv, rfl, hwn⟩
    have HWN := hid hwn
    have HK8 : Hid (Keep (fun _ => False) w3 w8) := hid (keep_new HK7.out hwn.keep (fun g hg => by
      rcases hg with rfl | hg
      · have := HK4.out.size; have := HQ4.out; omega
      · cases hg))
    clear hwn
    go_wp2_with fail
    refine (wr_string q q sv _ _ HWN.out.st).mono ?_
    rintro r w9 ⟨rfl, rfl⟩
    go_wp2
    (try simp only [Exit.inBlock, Exit.then])
    refine bodyPost_ret (results_tt' rfl _) rfl ?_
    rw [G1.out, G2.out, HPM.out]
    exact ⟨rfl, HK.out.trans HK8.out⟩
  by_cases h2 : z = 2
  · obtain rfl : z = 2 := by omega
    clear hsz
    go_wp2_with fail
    refine (f_power 16 (by omega) _).mono ?_
    rintro r w_ ⟨rfl, rfl⟩
    obtain ⟨nm, hnm⟩ : ∃ nm, n % 65536 = nm := ⟨_, rfl⟩
    have hnl : nm < 65536 := by rw [← hnm]; exact Nat.mod_lt _ (by decide)
    have hand : bits .and .u64 (n : Int) 65535 = (nm : Int) := by rw [← hnm]; exact and_pow n 16 HQ.out (by omega)
    have HPM : Hid (putL k x = leL 2 nm) := hid (by rw [HPL.out, ← hnm])
    clear hnm
    go_wp2_with fail
    clear hand
    have hnum := oct_num2 nm hnl q q (.slice none 0 0) [] w7 (by simp) HWS7.out
    refine hnum.mono ?_
    clear hnum
    rintro r w8 ⟨sv, rfl, hwn⟩
    have HWN := hid hwn
    have HK8 : Hid (Keep (fun _ => False) w3 w8) := hid (keep_new HK7.out hwn.keep (fun g hg => by
      rcases hg with rfl | hg
      · have := HK4.out.size; have := HQ4.out; omega
      · cases hg))
    clear hwn
    go_wp2_with fail
    refine (wr_string q q sv _ _ HWN.out.st).mono ?_
    rintro r w9 ⟨rfl, rfl⟩
    go_wp2
    (try simp only [Exit.inBlock, Exit.then])
    refine bodyPost_ret (results_tt' rfl _) rfl ?_
    rw [G1.out, G2.out, HPM.out]
    exact ⟨rfl, HK.out.trans HK8.out⟩
  by_cases h4 : z = 4
  · obtain rfl : z = 4 := by omega
    clear hsz
    go_wp2_with fail
    refine (f_power 32 (by omega) _).mono ?_
    rintro r w_ ⟨rfl, rfl⟩
    obtain ⟨nm, hnm⟩ : ∃ nm, n % 4294967296 = nm := ⟨_, rfl⟩
    have hnl : nm < 4294967296 := by rw [← hnm]; exact Nat.mod_lt _ (by decide)
    have hand : bits .and .u64 (n : Int) 4294967295 = (nm : Int) := by rw [← hnm]; exact and_pow n 32 HQ.out (by omega)
    have HPM : Hid (putL k x = leL 4 nm) := hid (by rw [HPL.out, ← hnm])
    clear hnm
    go_wp2_with fail
    clear hand
    have hnum := oct_num4 nm hnl q q (.slice none 0 0) [] w7 (by simp) HWS7.out
    refine hnum.mono ?_
    clear hnum
    rintro r w8 ⟨sv, rfl, hwn⟩
    have HWN := hid hwn
    have HK8 : Hid (Keep (fun _ => False) w3 w8) := hid (keep_new HK7.out hwn.keep (fun g hg => by
      rcases hg with rfl | hg
      · have := HK4.out.size; have := HQ4.out; omega
      · cases hg))
    clear hwn
    go_wp2_with fail
    refine (wr_string q q sv _ _ HWN.out.st).mono ?_
    rintro r w9 ⟨rfl, rfl⟩
    go_wp2
    (try simp only [Exit.inBlock, Exit.then])
    refine bodyPost_ret (results_tt' rfl _) rfl ?_
    rw [G1.out, G2.out, HPM.out]
    exact ⟨rfl, HK.out.trans HK8.out⟩
  obtain rfl : z = 8 := by omega
  clear hsz
  go_wp2_with fail
  refine (f_power 64 (by omega) _).mono ?_
  rintro r w_ ⟨rfl, rfl⟩
  obtain ⟨nm, hnm⟩ : ∃ nm, n % 18446744073709551616 = nm := ⟨_, rfl⟩
  have hnl : nm < 18446744073709551616 := by rw [← hnm]; exact Nat.mod_lt _ (by decide)
  have hand : bits .and .u64 (n : Int) 18446744073709551615 = (nm : Int) := by rw [← hnm]; exact and_pow n 64 HQ.out (by omega)
  have HPM : Hid (putL k x = leL 8 nm) := hid (by rw [HPL.out, ← hnm])
  clear hnm
  go_wp2_with fail
  clear hand
  have hnum := oct_num8 nm hnl q q (.slice none 0 0) [] w7 (by simp) HWS7.out
  refine hnum.mono ?_
  clear hnum
  rintro r w8 ⟨sv, rfl, hwn⟩
  have HWN := hid hwn
  have HK8 : Hid (Keep (fun _ => False) w3 w8) := hid (keep_new HK7.out hwn.keep (fun g hg => by
    rcases hg with rfl | hg
    · have := HK4.out.size; have := HQ4.out; omega
    · cases hg))
  clear hwn
  go_wp2_with fail
  refine (wr_string q q sv _ _ HWN.out.st).mono ?_
  rintro r w9 ⟨rfl, rfl⟩
  go_wp2
  (try simp only [Exit.inBlock, Exit.then])
  refine bodyPost_ret (results_tt' rfl _) rfl ?_
  rw [G1.out, G2.out, HPM.out]
  exact ⟨rfl, HK.out.trans HK8.out⟩
end Go.Proofs.YtlhdofkgcbmnnaaGreat

namespace Go.Proofs.YtlhdofkgcbmnnaaGreat
open Go.RowKit Go.Proofs.Heap Go.Proofs.Sch Go.Proofs.Wide

/-- A reader in block b: the bytes that are left, and whether it is bad. -/
def RdS (w : World) (b : Nat) (s : ByteArray) (bad : Bool) : Prop := w.heap[b]? = some (.cells #[.string s, .bool bad] 247 (0, 0))
theorem RdS.keep0 {w w' : World} {b : Nat} {s : ByteArray} {bad : Bool} (h : RdS w b s bad) (hk : Keep (fun _ => False) w w') : RdS w' b s bad := hk.get h id

theorem rd_read (s : ByteArray) (w : World) : Calls Tryz.prog 119 #[.string s] w fun r w' => r = .returned (.pointer (some ⟨w.heap.size, 0, none⟩)) ∧ RdS w' w.heap.size s false ∧ Keep (fun _ => False) w w' := by
  go_enter Tryz.func119, Tryz.ntmps119
  go_wp2
  go_ret
  exact ⟨rfl, heap_alloc_new w _, (Keep.refl _ w).alloc _⟩
theorem rd_bad (b : Nat) (s : ByteArray) (bad : Bool) (w : World) (h : RdS w b s bad) : Calls Tryz.prog 173 #[.pointer (some ⟨b, 0, none⟩)] w fun r w' => r = .returned (.bool bad) ∧ w = w' := by
  have c1 : w.cell? ⟨b, 1, none⟩ = some (.bool bad) := cell_of h (by rfl)
  clear h
  go_enter Tryz.func173, Tryz.ntmps173
  cases bad
  all_goals
    go_wp2
    go_ret
    exact ⟨rfl, rfl⟩
theorem rd_left (b : Nat) (s : ByteArray) (bad : Bool) (w : World) (h : RdS w b s bad) : Calls Tryz.prog 194 #[.pointer (some ⟨b, 0, none⟩)] w fun r w' => r = .returned (iV (if bad = true then 0 else s.size)) ∧ w = w' := by
  have c0 : w.cell? ⟨b, 0, none⟩ = some (.string s) := cell_of h (by rfl)
  have H := hid h
  clear h
  go_enter Tryz.func194, Tryz.ntmps194
  go_wp2_with fail
  refine (rd_bad b s bad _ H.out).mono ?_
  rintro r w' ⟨rfl, rfl⟩
  cases bad
  all_goals
    go_wp2
    go_ret
    exact ⟨rfl, rfl⟩
theorem rd_done (b : Nat) (s : ByteArray) (bad : Bool) (w : World) (h : RdS w b s bad) : Calls Tryz.prog 123 #[.pointer (some ⟨b, 0, none⟩)] w fun r w' => r = .returned (.bool (!bad && decide (s.size = 0))) ∧ w = w' := by
  have c0 : w.cell? ⟨b, 0, none⟩ = some (.string s) := cell_of h (by rfl)
  have H := hid h
  clear h
  go_enter Tryz.func123, Tryz.ntmps123
  go_wp2_with fail
  refine (rd_bad b s bad _ H.out).mono ?_
  rintro r w' ⟨rfl, rfl⟩
  cases bad
  · by_cases hz : s.size = 0
    · have e1 : s.toList.isEmpty = true := empty_yes hz
      have G : Hid ((!false && decide (s.size = 0)) = true) := hid (by rw [decide_eq_true hz]; rfl)
      clear hz
      go_wp2
      go_ret
      exact ⟨by rw [G.out]; rfl, rfl⟩
    · have e1 : s.toList.isEmpty = false := empty_no hz
      have G : Hid ((!false && decide (s.size = 0)) = false) := hid (by rw [decide_eq_false hz]; rfl)
      clear hz
      go_wp2
      go_ret
      exact ⟨by rw [G.out]; rfl, rfl⟩
  · go_wp2
    go_ret
    exact ⟨rfl, rfl⟩
/-- The number that bytes are, little end first. -/
def leN : List UInt8 → Nat
  | [] => 0
  | b :: r => b.toNat + 256 * leN r
theorem leN_lt : ∀ l : List UInt8, leN l < 256 ^ l.length
  | [] => by decide
  | b :: r => by
    have := leN_lt r
    have hb : b.toNat < 256 := b.toNat_lt
    rw [leN, List.length_cons, Nat.pow_succ]
    omega
theorem leL_leN : ∀ (l : List UInt8), leL l.length (leN l) = l
  | [] => rfl
  | b :: r => by
    have hb : b.toNat < 256 := b.toNat_lt
    rw [List.length_cons, leL, leN]
    have h1 : (b.toNat + 256 * leN r) / 256 = leN r := by omega
    have h2 : UInt8.ofNat (b.toNat + 256 * leN r) = b := by
      apply UInt8.toNat.inj
      rw [UInt8.toNat_ofNat']
      omega
    rw [h1, h2, leL_leN r]
theorem leN_leL : ∀ (k m : Nat), leN (leL k m) = m % 256 ^ k
  | 0, m => by simp [leL, leN, Nat.mod_one]
  | k + 1, m => by
    have h : 256 ^ (k + 1) = 256 * 256 ^ k := by rw [Nat.pow_succ, Nat.mul_comm]
    rw [leL, leN, leN_leL k (m / 256), UInt8.toNat_ofNat', h, Nat.mod_mul]
/-- The first bytes' number. -/
def firstN (s : ByteArray) (wd : Nat) : Nat := leN (s.data.toList.take wd)
theorem wide_le {wd : Nat} (h : WideOk wd) : 1 ≤ wd ∧ wd ≤ 8 := by unfold WideOk at h; omega
theorem pow_le {a b : Nat} (h : a ≤ b) : 256 ^ a ≤ 256 ^ b := Nat.pow_le_pow_right (by decide) h
theorem firstN_lt (s : ByteArray) (wd : Nat) : firstN s wd < 256 ^ wd := by
  have h1 := leN_lt (s.data.toList.take wd)
  have h2 : 256 ^ (s.data.toList.take wd).length ≤ 256 ^ wd := pow_le (by rw [List.length_take]; omega)
  unfold firstN; omega

set_option maxRecDepth 20000 in
set_option maxHeartbeats 8000000 in
theorem rd_see (b : Nat) (s : ByteArray) (bad : Bool) (wd : Nat) (hwd : WideOk wd) (w : World) (h : RdS w b s bad) :
    Calls Tryz.prog 170 #[.pointer (some ⟨b, 0, none⟩), .int .i64 (wd : Int)] w fun r w' => r = .returned (if bad = false ∧ wd ≤ s.size then .tuple #[.int .u64 (firstN s wd : Int), .bool true] else .tuple #[.int .u64 0, .bool false]) ∧ w = w' := by
  have c0 : w.cell? ⟨b, 0, none⟩ = some (.string s) := cell_of h (by rfl)
  have H := hid h
  have HWD := hid (wide_le hwd)
  have HW := hid hwd
  have hw8 := (wide_le hwd).2
  clear h hwd
  have HP : Hid (∀ X : Value, (if bad = false ∧ wd ≤ s.size then .tuple #[.int .u64 (firstN s wd : Int), .bool true] else .tuple #[.int .u64 0, .bool false]) = X → X = (if bad = false ∧ wd ≤ s.size then .tuple #[.int .u64 (firstN s wd : Int), .bool true] else .tuple #[.int .u64 0, .bool false])) := hid (fun X h => h.symm)
  generalize hR : (if bad = false ∧ wd ≤ s.size then Value.tuple #[.int .u64 (firstN s wd : Int), .bool true] else .tuple #[.int .u64 0, .bool false]) = R at *
  have HR := hid hR
  clear HP hR
  go_enter Tryz.func170, Tryz.ntmps170
  go_wp2_with fail
  refine (oct_wide wd HW.out _).mono ?_
  rintro r w1 ⟨rfl, rfl⟩
  go_wp2_with fail
  refine (rd_left b s bad _ H.out).mono ?_
  rintro r w1 ⟨rfl, rfl⟩
  by_cases hg : bad = false ∧ wd ≤ s.size
  rotate_left
  · obtain ⟨z, hz⟩ : ∃ z, (if bad = true then 0 else s.size) = z := ⟨_, rfl⟩
    have hzw : z < wd := by
      rw [← hz]
      have := HWD.out
      cases bad
      · simp at hg ⊢; omega
      · simp; omega
    rw [hz]
    have g1 : decide ((z : Int) < (wd : Int)) = true := decide_eq_true (by omega)
    have g2 : decide (z < wd) = true := decide_eq_true hzw
    have HE : Hid (R = .tuple #[.int .u64 0, .bool false]) := hid (by rw [← HR.out, if_neg hg])
    clear hz hg
    go_wp2
    (try simp only [Exit.inBlock, Exit.then])
    refine bodyPost_ret (results_tt' rfl _) rfl ?_
    exact ⟨by rw [HE.out]; rfl, rfl⟩
  obtain ⟨rfl, hle⟩ := hg
  have HE : Hid (R = .tuple #[.int .u64 (firstN s wd : Int), .bool true]) := hid (by rw [← HR.out, if_pos ⟨rfl, hle⟩])
  have g1 : decide ((s.size : Int) < (wd : Int)) = false := decide_eq_false (by omega)
  have g2 : decide (s.size < wd) = false := decide_eq_false (by omega)
  simp only [Bool.false_eq_true, if_false]
  go_wp2_with fail
  clear g1 g2
  go_loopw [6, 7] (fun n i wr => ∃ k : Nat, k ≤ wd ∧ i = .int .i64 ((k : Int) - 1) ∧ n = .int .u64 (leN ((s.data.toList.take wd).drop k) : Int) ∧ w = wr) (fun _ i _ => ((intOf i) + 1).toNat)
  case atStart => exact ⟨wd, Nat.le_refl _, rfl, by rw [List.drop_of_length_le (by rw [List.length_take]; omega)]; rfl, rfl⟩
  case round =>
    obtain ⟨k, hk, rfl, rfl, rfl⟩ := hrel
    by_cases hk0 : k = 0
    · subst hk0
      have g1 : decide ((0 : Int) ≤ ((0 : Nat) : Int) - 1) = false := by decide
      go_wp2
      (try simp only [Exit.inBlock, Exit.then])
      refine bodyPost_ret (results_tt' rfl _) rfl ?_
      exact ⟨by rw [HE.out]; rfl, rfl⟩
    · obtain ⟨j, rfl⟩ : ∃ j, k = j + 1 := ⟨k - 1, by omega⟩
      have e1 : (((j + 1 : Nat) : Int) - 1) = (j : Int) := by omega
      rw [e1]
      have hjs : j < s.size := by omega
      have g1 : decide ((0 : Int) ≤ (j : Int)) = true := decide_eq_true (by omega)
      have hlm : leN ((s.data.toList.take wd).drop (j + 1)) < 72057594037927936 := by
        have h1 := leN_lt ((s.data.toList.take wd).drop (j + 1))
        have h2 : ((s.data.toList.take wd).drop (j + 1)).length ≤ 7 := by rw [List.length_drop, List.length_take]; omega
        have h3 := pow_le h2
        exact Nat.lt_of_lt_of_le h1 h3
      have hst : leN ((s.data.toList.take wd).drop j) = (s[j]'hjs).toNat + 256 * leN ((s.data.toList.take wd).drop (j + 1)) := by
        have h1 : (s.data.toList.take wd)[j]? = some (s[j]'hjs) := by
          rw [List.getElem?_take_of_lt (by omega), Array.getElem?_toList]
          exact Array.getElem?_eq_getElem hjs
        rw [drop_next h1, leN]
      obtain ⟨bt, hbt⟩ : ∃ bt, (s[j]'hjs).toNat = bt := ⟨_, rfl⟩
      have hb256 : bt < 256 := by rw [← hbt]; exact (s[j]'hjs).toNat_lt
      rw [hbt] at hst
      have HST := hid hst
      clear hst
      generalize leN ((s.data.toList.take wd).drop (j + 1)) = m at *
      have hor : bits .or .u64 ((m : Int) * 256) (bt : Int) = ((m * 256 + bt : Nat) : Int) := by
        rw [bits_join .u64 64 (by decide) wraps64 8 _ _ (by omega) (by omega) (by omega) (by omega) (by omega) (by omega)]
        omega
      have hwb : IntKind.u64.wrap (bt : Int) = (bt : Int) := wraps64 _ (by omega) (by omega)
      have hin : (0 : Int) ≤ (j : Int) ∧ (j : Int) < (s.size : Int) := ⟨by omega, by omega⟩
      obtain ⟨mm, hmm⟩ : ∃ mm, m * 256 + bt = mm := ⟨_, rfl⟩
      rw [hmm] at hor
      have HMM : Hid (leN ((s.data.toList.take wd).drop j) = mm) := hid (by rw [HST.out, ← hmm]; omega)
      clear hmm
      go_wp2
      go_roundw
      case rel => exact ⟨j, by omega, by go_num, by rw [HMM.out], by first | rfl | trivial⟩
      case measure => simp [intOf]

/-- A reader that has taken: what is answered, what is left, whether it is bad. -/
structure Took (w w' : World) (b : Nat) (r : Ending) (t s' : ByteArray) (bad' : Bool) : Prop where
  res : r = .returned (.string t)
  st : RdS w' b s' bad'
  keep : Keep (fun g => g = b) w w'

set_option maxRecDepth 20000 in
set_option maxHeartbeats 8000000 in
theorem rd_take_bad (b : Nat) (s : ByteArray) (fr n : Int) (is : Bool) (w : World) (h : RdS w b s true) :
    Calls Tryz.prog 171 #[.pointer (some ⟨b, 0, none⟩), .int .i64 fr, .int .i64 n, .bool is] w fun r w' => Took w w' b r ⟨#[]⟩ s true := by
  have H := hid h
  clear h
  go_enter Tryz.func171, Tryz.ntmps171
  go_wp2_with fail
  refine (rd_bad b s true _ H.out).mono ?_
  rintro r w' ⟨rfl, rfl⟩
  go_wp2
  go_ret
  exact ⟨rfl, H.out, Keep.refl _ _⟩
set_option maxRecDepth 20000 in
set_option maxHeartbeats 8000000 in
theorem rd_take_no (b : Nat) (s : ByteArray) (fr : Nat) (n : Int) (is : Bool) (w : World) (hfr : fr ≤ 9) (hs : s.size ≤ 9223372036854775807) (hno : is = false ∨ n < 0 ∨ (s.size : Int) - fr < n) (h : RdS w b s false) :
    Calls Tryz.prog 171 #[.pointer (some ⟨b, 0, none⟩), .int .i64 (fr : Int), .int .i64 n, .bool is] w fun r w' => Took w w' b r ⟨#[]⟩ s true := by
  have c0 : w.cell? ⟨b, 0, none⟩ = some (.string s) := cell_of h (by rfl)
  have c1 : w.cell? ⟨b, 1, none⟩ = some (.bool false) := cell_of h (by rfl)
  have f1 : w.frozen? ⟨b, 1, none⟩ = false := free_of h 1
  have H := hid h
  have HE : Hid (Took w (w.setCell ⟨b, 1, none⟩ (.bool true)) b (.returned (.string ⟨#[]⟩)) ⟨#[]⟩ s true) := hid ⟨rfl, hsc_same h 1 _, (Keep.refl (fun g => g = b) w).setCell (p := ⟨b, 1, none⟩) rfl _⟩
  clear h
  go_enter Tryz.func171, Tryz.ntmps171
  go_wp2_with fail
  refine (rd_bad b s false _ H.out).mono ?_
  rintro r w' ⟨rfl, rfl⟩
  cases is
  · go_wp2
    go_ret
    exact HE.out
  by_cases h1 : n < 0
  · have g1 : decide (n < 0) = true := decide_eq_true h1
    clear hno
    go_wp2
    go_ret
    exact HE.out
  have g1 : decide (n < 0) = false := decide_eq_false h1
  have h2 : (s.size : Int) - fr < n := by rcases hno with h | h | h; exact absurd h (by simp); exact absurd h h1; exact h
  have g2 : decide ((s.size : Int) - (fr : Int) < n) = true := decide_eq_true h2
  clear hno h1 h2
  go_wp2
  go_ret
  exact HE.out
set_option maxRecDepth 20000 in
set_option maxHeartbeats 8000000 in
theorem rd_take_yes (b : Nat) (s : ByteArray) (fr n : Nat) (w : World) (hs : s.size ≤ 9223372036854775807) (hle : fr + n ≤ s.size) (h : RdS w b s false) :
    Calls Tryz.prog 171 #[.pointer (some ⟨b, 0, none⟩), .int .i64 (fr : Int), .int .i64 (n : Int), .bool true] w fun r w' => Took w w' b r (s.extract fr (fr + n)) (s.extract (fr + n) s.size) false := by
  have c0 : w.cell? ⟨b, 0, none⟩ = some (.string s) := cell_of h (by rfl)
  have c1 : w.cell? ⟨b, 1, none⟩ = some (.bool false) := cell_of h (by rfl)
  have f0 : w.frozen? ⟨b, 0, none⟩ = false := free_of h 0
  have H := hid h
  have HE : Hid (∀ t, Took w (w.setCell ⟨b, 0, none⟩ (.string (s.extract (fr + n) s.size))) b (.returned (.string t)) t (s.extract (fr + n) s.size) false) := hid (fun t => ⟨rfl, hsc_same h 0 _, (Keep.refl (fun g => g = b) w).setCell (p := ⟨b, 0, none⟩) rfl _⟩)
  clear h
  go_enter Tryz.func171, Tryz.ntmps171
  go_wp2_with fail
  refine (rd_bad b s false _ H.out).mono ?_
  rintro r w' ⟨rfl, rfl⟩
  have g1 : decide ((n : Int) < 0) = false := decide_eq_false (by omega)
  have g2 : decide ((s.size : Int) - (fr : Int) < (n : Int)) = false := decide_eq_false (by omega)
  have g3 : (0 : Int) ≤ (fr : Int) ∧ (fr : Int) ≤ (fr : Int) + (n : Int) ∧ (fr : Int) + (n : Int) ≤ (s.size : Int) := ⟨by omega, by omega, by omega⟩
  go_wp2
  go_ret
  exact HE.out _

set_option maxRecDepth 20000 in
set_option maxHeartbeats 8000000 in
theorem rd_num_yes (b : Nat) (s : ByteArray) (wd : Nat) (hwd : WideOk wd) (w : World) (hs : s.size ≤ 9223372036854775807) (hle : wd ≤ s.size) (h : RdS w b s false) :
    Calls Tryz.prog 120 #[.pointer (some ⟨b, 0, none⟩), .int .i64 (wd : Int)] w fun r w' => r = .returned (.int .u64 (firstN s wd : Int)) ∧ RdS w' b (s.extract wd s.size) false ∧ Keep (fun g => g = b) w w' := by
  have H := hid h
  clear h
  go_enter Tryz.func120, Tryz.ntmps120
  go_wp2_with fail
  refine (rd_see b s false wd hwd _ H.out).mono ?_
  rw [if_pos ⟨rfl, hle⟩]
  rintro r w1 ⟨rfl, rfl⟩
  go_wp2_with fail
  have ht := rd_take_yes b s 0 wd w hs (by omega) H.out
  simp only [Nat.zero_add] at ht
  refine ht.mono ?_
  clear ht
  rintro r w2 ⟨rfl, h1, h2⟩
  have H1 := hid h1; have H2 := hid h2
  clear h1 h2
  go_wp2
  go_ret
  exact ⟨rfl, H1.out, H2.out⟩
set_option maxRecDepth 20000 in
set_option maxHeartbeats 8000000 in
theorem rd_num_no (b : Nat) (s : ByteArray) (bad : Bool) (wd : Nat) (hwd : WideOk wd) (w : World) (hs : s.size ≤ 9223372036854775807) (hno : bad = true ∨ s.size < wd) (h : RdS w b s bad) :
    Calls Tryz.prog 120 #[.pointer (some ⟨b, 0, none⟩), .int .i64 (wd : Int)] w fun r w' => r = .returned (.int .u64 0) ∧ RdS w' b s true ∧ Keep (fun g => g = b) w w' := by
  have H := hid h
  clear h
  go_enter Tryz.func120, Tryz.ntmps120
  go_wp2_with fail
  refine (rd_see b s bad wd hwd _ H.out).mono ?_
  rw [if_neg (by rintro ⟨rfl, h⟩; rcases hno with h1 | h1; cases h1; omega)]
  rintro r w1 ⟨rfl, rfl⟩
  go_wp2_with fail
  cases bad
  · refine (rd_take_no b s 0 wd false w (by omega) hs (.inl rfl) H.out).mono ?_
    rintro r w2 ⟨rfl, h1, h2⟩
    have H1 := hid h1; have H2 := hid h2
    clear h1 h2
    go_wp2
    go_ret
    exact ⟨rfl, H1.out, H2.out⟩
  · refine (rd_take_bad b s 0 wd false w H.out).mono ?_
    rintro r w2 ⟨rfl, h1, h2⟩
    have H1 := hid h1; have H2 := hid h2
    clear h1 h2
    go_wp2
    go_ret
    exact ⟨rfl, H1.out, H2.out⟩
end Go.Proofs.YtlhdofkgcbmnnaaGreat
