/- What is proved: what a world is that some boxes are laid in; plain lemmas, no program. -/
import Derived.Test.YtkgkcnmnfhehfaaMHeap
import Derived.Test.YtkgkcnmnfhehfaaMWide
import Derived.Test.YtkgkcnmnfhehfaaMWide2
import Derived.Maps.Own
import Derived.Maps.OwnOps
import Derived.Maps.OwnSet
import Derived.Maps.Views
import Derived.Laws.BitsLemmas
namespace Go.Proofs.Ytkgkcnmnfhehfaa
open Go.RowKit Go.Proofs.Heap Go.Proofs.Sch

theorem box1 (w : World) (c1 : Array Value) (t1 : TypeId) : ∃ w1, w1 = w.alloc (.cells c1 t1) ∧ w1.heap[w.heap.size]? = some (.cells c1 t1 (0, 0)) ∧ w1.heap.size = w.heap.size + 1 ∧ Keep (fun _ => False) w w1 :=
  ⟨_, rfl, heap_alloc_new w _, by simp, (Keep.refl _ w).alloc _⟩
theorem box2 (w : World) (c1 c2 : Array Value) (t1 t2 : TypeId) : ∃ w2, w2 = (w.alloc (.cells c1 t1)).alloc (.cells c2 t2) ∧ w2.heap[w.heap.size]? = some (.cells c1 t1 (0, 0)) ∧ w2.heap[w.heap.size + 1]? = some (.cells c2 t2 (0, 0)) ∧ w2.heap.size = w.heap.size + 2 ∧ Keep (fun _ => False) w w2 := by
  obtain ⟨w1, h1, h2, h3, h4⟩ := box1 w c1 t1
  obtain ⟨w2, k1, k2, k3, k4⟩ := box1 w1 c2 t2
  subst h1
  exact ⟨w2, k1, k4.get h2 id, by rw [← h3]; exact k2, by omega, h4.trans k4⟩
theorem box3 (w : World) (c1 c2 c3 : Array Value) (t1 t2 t3 : TypeId) : ∃ w3, w3 = ((w.alloc (.cells c1 t1)).alloc (.cells c2 t2)).alloc (.cells c3 t3) ∧ w3.heap[w.heap.size]? = some (.cells c1 t1 (0, 0)) ∧ w3.heap[w.heap.size + 1]? = some (.cells c2 t2 (0, 0)) ∧ w3.heap[w.heap.size + 1 + 1]? = some (.cells c3 t3 (0, 0)) ∧ w3.heap.size = w.heap.size + 3 ∧ Keep (fun _ => False) w w3 := by
  obtain ⟨w2, h1, h2, h3, h4, h5⟩ := box2 w c1 c2 t1 t2
  obtain ⟨w3, k1, k2, k3, k4⟩ := box1 w2 c3 t3
  subst h1
  exact ⟨w3, k1, k4.get h2 id, k4.get h3 id, by rw [← h4]; exact k2, by omega, h5.trans k4⟩
theorem box4 (w : World) (c1 c2 c3 c4 : Array Value) (t1 t2 t3 t4 : TypeId) : ∃ w4, w4 = (((w.alloc (.cells c1 t1)).alloc (.cells c2 t2)).alloc (.cells c3 t3)).alloc (.cells c4 t4) ∧ w4.heap[w.heap.size]? = some (.cells c1 t1 (0, 0)) ∧ w4.heap[w.heap.size + 1]? = some (.cells c2 t2 (0, 0)) ∧ w4.heap[w.heap.size + 1 + 1]? = some (.cells c3 t3 (0, 0)) ∧ w4.heap[w.heap.size + 1 + 1 + 1]? = some (.cells c4 t4 (0, 0)) ∧ w4.heap.size = w.heap.size + 4 ∧ Keep (fun _ => False) w w4 := by
  obtain ⟨w3, h1, h2, h3, h4, h5, h6⟩ := box3 w c1 c2 c3 t1 t2 t3
  obtain ⟨w4, k1, k2, k3, k4⟩ := box1 w3 c4 t4
  subst h1
  exact ⟨w4, k1, k4.get h2 id, k4.get h3 id, k4.get h4 id, by rw [← show _ = w.heap.size + 1 + 1 + 1 from h5]; exact k2, by omega, h6.trans k4⟩

theorem box5 (w : World) (c1 c2 c3 c4 c5 : Array Value) (t1 t2 t3 t4 t5 : TypeId) : ∃ w5, w5 = ((((w.alloc (.cells c1 t1)).alloc (.cells c2 t2)).alloc (.cells c3 t3)).alloc (.cells c4 t4)).alloc (.cells c5 t5) ∧ w5.heap[w.heap.size]? = some (.cells c1 t1 (0, 0)) ∧ w5.heap[w.heap.size + 1]? = some (.cells c2 t2 (0, 0)) ∧ w5.heap[w.heap.size + 1 + 1]? = some (.cells c3 t3 (0, 0)) ∧ w5.heap[w.heap.size + 1 + 1 + 1]? = some (.cells c4 t4 (0, 0)) ∧ w5.heap[w.heap.size + 1 + 1 + 1 + 1]? = some (.cells c5 t5 (0, 0)) ∧ w5.heap.size = w.heap.size + 5 ∧ Keep (fun _ => False) w w5 := by
  obtain ⟨w4, h1, h2, h3, h4, h5, h6, h7⟩ := box4 w c1 c2 c3 c4 t1 t2 t3 t4
  obtain ⟨w5, k1, k2, k3, k4⟩ := box1 w4 c5 t5
  subst h1
  exact ⟨w5, k1, k4.get h2 id, k4.get h3 id, k4.get h4 id, k4.get h5 id, by rw [← show _ = w.heap.size + 1 + 1 + 1 + 1 from h6]; exact k2, by omega, h7.trans k4⟩
end Go.Proofs.Ytkgkcnmnfhehfaa

namespace Go.Proofs.Ytkgkcnmnfhehfaa
open Go.RowKit Go.Proofs.Heap Go.Proofs.Sch Go.Proofs.Wide

theorem results_tt' {fn : Func} {p u : Tmp} (h : fn.results = #[.tmp p, .tmp u]) (tmps : Array Value) {P : Program} {w : World} : (results fn tmps).run P w = .ok (.tuple #[tmps.getD p undef, tmps.getD u undef]) w := by
  unfold results
  rw [h]
  simp
/-- The word that stands for a number. -/
def wordN (x : WI) : Nat := if x.neg = true then (18446744073709551616 - x.lo) % 18446744073709551616 else x.lo
/-- An element's bytes. -/
def putL (k : Int) (x : WI) : List UInt8 := leL (szN k) (wordN x % 256 ^ szN k)
def putS (k : Int) (x : WI) : ByteArray := if fitsB k x = true then ⟨(putL k x).toArray⟩ else ⟨#[]⟩
/-- The error of an element. -/
def putE (k : Int) (x : WI) : Nat := if kindB k = false then 1 else if fitsB k x = false then 3 else 0
theorem wordN_lt {x : WI} (h : x.fit) : wordN x < 18446744073709551616 := by
  unfold wordN
  split
  · omega
  · exact h.2
theorem wrap_neg (n : Nat) (h : n < 18446744073709551616) : IntKind.u64.wrap (-(n : Int)) = (((18446744073709551616 - n) % 18446744073709551616 : Nat) : Int) := by
  have : IntKind.u64.wrap (-(n : Int)) = (-(n : Int)) % 18446744073709551616 := by simp [IntKind.wrap, IntKind.bits, IntKind.signed]
  omega
theorem size_cases {k : Int} (h1 : 1 ≤ k) (h2 : k ≤ 10) : sizeK k = 1 ∨ sizeK k = 2 ∨ sizeK k = 4 ∨ sizeK k = 8 := by
  unfold sizeK
  omega
theorem and_pow (n k : Nat) (hn : n < 18446744073709551616) (hk : k = 8 ∨ k = 16 ∨ k = 32 ∨ k = 64) : bits .and .u64 (n : Int) ((2 ^ k - 1 : Nat) : Int) = ((n % 2 ^ k : Nat) : Int) := by
  have h := bits_mask .u64 64 (by decide) wraps64 k (by omega) (n : Int) (by omega) (by omega)
  have e : ((2 : Int) ^ k - 1) = ((2 ^ k - 1 : Nat) : Int) := by
    rcases hk with rfl | rfl | rfl | rfl <;> rfl
  rw [← e, h]
  rcases hk with rfl | rfl | rfl | rfl <;> simp

set_option maxRecDepth 20000 in
set_option maxHeartbeats 8000000 in
theorem f_put (k : Int) (x : WI) (hx : x.fit) (w : World) : Calls Try.prog 32 #[.int .i64 k, WV x] w fun r w' => r = .returned (.tuple #[.string (putS k x), iV (putE k x)]) ∧ Keep (fun _ => False) w w' := by
  obtain ⟨w3, hw3, hb3, hs3, hk3⟩ := box1 w (WC x) 57
  have HK := hid hk3
  have HX := hid hx
  clear hs3 hk3 hx
  go_enter Try.func32, Try.ntmps32
  go_upto_block 0 with fail
  rw [← hw3]
  clear hw3
  generalize w.heap.size = sb at *
  have HW : Hid (∀ wy, Keep (fun _ => False) w3 wy → wy.cell? ⟨sb, 0, none⟩ = some (.bool x.neg) ∧ wy.cell? ⟨sb, 1, none⟩ = some (.int .u64 (x.hi : Int)) ∧ wy.cell? ⟨sb, 2, none⟩ = some (.int .u64 (x.lo : Int))) := hid (fun wy hk =>
    ⟨cell_of (hk.get hb3 id) (by rfl), cell_of (hk.get hb3 id) (by rfl), cell_of (hk.get hb3 id) (by rfl)⟩)
  clear hb3
  obtain ⟨s0, s1, s2⟩ := HW.out _ (Keep.refl _ w3)
  go_wp2_with fail
  refine (is_kind k _).mono ?_
  rintro r w_ ⟨rfl, rfl⟩
  cases hkd : kindB k
  · have G1 : Hid (putS k x = ⟨#[]⟩) := hid (by unfold putS fitsB; rw [hkd]; rfl)
    have G2 : Hid (putE k x = 1) := hid (by unfold putE; rw [hkd]; rfl)
    clear hkd
    go_wp2
    (try simp only [Exit.inBlock, Exit.then])
    refine bodyPost_ret (results_tt' rfl _) rfl ?_
    rw [G1.out, G2.out]
    exact ⟨rfl, HK.out⟩
  go_wp2_with fail
  refine (f_fits k x HX.out _).mono ?_
  rintro r w4 ⟨rfl, hk4⟩
  have HK4 := hid hk4
  clear hk4 s0 s1 s2
  cases hft : fitsB k x
  · have G1 : Hid (putS k x = ⟨#[]⟩) := hid (by unfold putS; rw [hft]; rfl)
    have G2 : Hid (putE k x = 3) := hid (by unfold putE; rw [hkd, hft]; rfl)
    clear hkd hft
    go_wp2
    (try simp only [Exit.inBlock, Exit.then])
    refine bodyPost_ret (results_tt' rfl _) rfl ?_
    rw [G1.out, G2.out]
    exact ⟨rfl, HK.out.trans HK4.out⟩
  have G1 : Hid (putS k x = ⟨(putL k x).toArray⟩) := hid (by unfold putS; rw [hft]; rfl)
  have G2 : Hid (putE k x = 0) := hid (by unfold putE; rw [hkd, hft]; rfl)
  have hk10 : 1 ≤ k ∧ k ≤ 10 := of_decide_eq_true hkd
  have HSZ := hid (size_cases hk10.1 hk10.2)
  have HN := hid (wordN_lt HX.out)
  have hlo : x.lo < 18446744073709551616 := HX.out.2
  clear hkd hft hk10
  obtain ⟨s0, s1, s2⟩ := HW.out _ HK4.out
  go_upto_if 20 with fail
  go_cut [6] from 20 to 23 (fun v wx => v = .int .u64 (wordN x : Int) ∧ w4 = wx)
  case first =>
    obtain ⟨ng, hi, lo⟩ := x
    simp only at s0 s1 s2 hlo
    cases ng
    · go_wp2
      go_meet
      case rel => exact ⟨rfl, rfl⟩
    · have hwr := wrap_neg lo hlo
      go_wp2
      go_meet
      case rel => exact ⟨by first | rfl | (rw [show wordN ⟨true, hi, lo⟩ = (18446744073709551616 - lo) % 18446744073709551616 from rfl, ← hwr]), rfl⟩
  case rest =>
  obtain ⟨rfl, rfl⟩ := hcut
  clear s0 s1 s2
  have HQ := hid (wordN_lt HX.out)
  have HPL : Hid (putL k x = leL (szN k) (wordN x % 256 ^ szN k)) := hid rfl
  have HSC := hid (sz_cast k)
  generalize wordN x = n at *
  obtain ⟨w5, hw5, hb5, hs5, hk5⟩ := box1 w4 #[.slice none 0 0] 103
  have HK5 := hid (HK4.out.trans hk5)
  have HWS : Hid (WrS w5 w4.heap.size w4.heap.size (.slice none 0 0) []) := hid ⟨hb5, World.ownsRow_nil _ _ _ _, by simp [Value.ownBlock], Nat.le_refl _⟩
  have HB45 := hid hk5.size
  clear hb5 hs5 hk5
  go_upto_region 9 with fail
  rw [← hw5]
  clear hw5
  generalize hq : w4.heap.size = q at *
  have HQ4 := hid hq
  clear hq
  go_wp2_with fail
  refine (size_of k _).mono ?_
  rintro r w6 ⟨rfl, hk6⟩
  have HK6 := hid (HK5.out.trans hk6)
  have HWS6 : Hid (WrS w6 q q (.slice none 0 0) []) := hid ⟨hk6.get HWS.out.block id, World.ownsRow_nil _ _ _ _, HWS.out.ne, Nat.le_refl _⟩
  clear hk6
  rw [HSC.out]
  go_wp2_with fail
  refine (size_of k _).mono ?_
  rintro r w7 ⟨rfl, hk7⟩
  have HK7 := hid (HK6.out.trans hk7)
  have HWS7 : Hid (WrS w7 q q (.slice none 0 0) []) := hid ⟨hk7.get HWS6.out.block id, World.ownsRow_nil _ _ _ _, HWS.out.ne, Nat.le_refl _⟩
  clear hk7
  have hsz := HSZ.out
  rw [HSC.out] at hsz ⊢
  generalize szN k = z at *
  by_cases h1 : z = 1
  · obtain rfl : z = 1 := by omega
    clear hsz
    go_wp2_with fail
    refine (f_power 8 (by omega) _).mono ?_
    rintro r w_ ⟨rfl, rfl⟩
    obtain ⟨nm, hnm⟩ : ∃ nm, n % 256 = nm := ⟨_, rfl⟩
    have hnl : nm < 256 := by rw [← hnm]; exact Nat.mod_lt _ (by decide)
    have hand : bits .and .u64 (n : Int) 255 = (nm : Int) := by rw [← hnm]; exact and_pow n 8 HQ.out (by omega)
    have HPM : Hid (putL k x = leL 1 nm) := hid (by rw [HPL.out, ← hnm])
    clear hnm
    go_wp2_with fail
    clear hand
    have hnum := oct_num1 nm hnl q q (.slice none 0 0) [] w7 (by simp) HWS7.out
    refine hnum.mono ?_
    clear hnum
    rintro r w8 ⟨sv, rfl, hwn⟩
    have HWN := hid hwn
    have HK8 : Hid (Keep (fun _ => False) w3 w8) := hid (keep_new HK7.out hwn.keep (fun g hg => by
      rcases hg with rfl | hg
      · have := HK4.out.size; have := HQ4.out; omega
      · cases hg))
    clear hwn
    go_wp2_with fail
    refine (wr_string q q sv _ _ HWN.out.st).mono ?_
    rintro r w9 ⟨rfl, rfl⟩
    go_wp2
    (try simp only [Exit.inBlock, Exit.then])
    refine bodyPost_ret (results_tt' rfl _) rfl ?_
    rw [G1.out, G2.out, HPM.out]
    exact ⟨rfl, HK.out.trans HK8.out⟩
  by_cases h2 : z = 2
  · obtain rfl : z = 2 := by omega
    clear hsz
    go_wp2_with fail
    refine (f_power 16 (by omega) _).mono ?_
    rintro r w_ ⟨rfl, rfl⟩
    obtain ⟨nm, hnm⟩ : ∃ nm, n % 65536 = nm := ⟨_, rfl⟩
    have hnl : nm < 65536 := by rw [← hnm]; exact Nat.mod_lt _ (by decide)
    have hand : bits .and .u64 (n : Int) 65535 = (nm : Int) := by rw [← hnm]; exact and_pow n 16 HQ.out (by omega)
    have HPM : Hid (putL k x = leL 2 nm) := hid (by rw [HPL.out, ← hnm])
    clear hnm
    go_wp2_with fail
    clear hand
    have hnum := oct_num2 nm hnl q q (.slice none 0 0) [] w7 (by simp) HWS7.out
    refine hnum.mono ?_
    clear hnum
    rintro r w8 ⟨sv, rfl, hwn⟩
    have HWN := hid hwn
    have HK8 : Hid (Keep (fun _ => False) w3 w8) := hid (keep_new HK7.out hwn.keep (fun g hg => by
      rcases hg with rfl | hg
      · have := HK4.out.size; have := HQ4.out; omega
      · cases hg))
    clear hwn
    go_wp2_with fail
    refine (wr_string q q sv _ _ HWN.out.st).mono ?_
    rintro r w9 ⟨rfl, rfl⟩
    go_wp2
    (try simp only [Exit.inBlock, Exit.then])
    refine bodyPost_ret (results_tt' rfl _) rfl ?_
    rw [G1.out, G2.out, HPM.out]
    exact ⟨rfl, HK.out.trans HK8.out⟩
  by_cases h4 : z = 4
  · obtain rfl : z = 4 := by omega
    clear hsz
    go_wp2_with fail
    refine (f_power 32 (by omega) _).mono ?_
    rintro r w_ ⟨rfl, rfl⟩
    obtain ⟨nm, hnm⟩ : ∃ nm, n % 4294967296 = nm := ⟨_, rfl⟩
    have hnl : nm < 4294967296 := by rw [← hnm]; exact Nat.mod_lt _ (by decide)
    have hand : bits .and .u64 (n : Int) 4294967295 = (nm : Int) := by rw [← hnm]; exact and_pow n 32 HQ.out (by omega)
    have HPM : Hid (putL k x = leL 4 nm) := hid (by rw [HPL.out, ← hnm])
    clear hnm
    go_wp2_with fail
    clear hand
    have hnum := oct_num4 nm hnl q q (.slice none 0 0) [] w7 (by simp) HWS7.out
    refine hnum.mono ?_
    clear hnum
    rintro r w8 ⟨sv, rfl, hwn⟩
    have HWN := hid hwn
    have HK8 : Hid (Keep (fun _ => False) w3 w8) := hid (keep_new HK7.out hwn.keep (fun g hg => by
      rcases hg with rfl | hg
      · have := HK4.out.size; have := HQ4.out; omega
      · cases hg))
    clear hwn
    go_wp2_with fail
    refine (wr_string q q sv _ _ HWN.out.st).mono ?_
    rintro r w9 ⟨rfl, rfl⟩
    go_wp2
    (try simp only [Exit.inBlock, Exit.then])
    refine bodyPost_ret (results_tt' rfl _) rfl ?_
    rw [G1.out, G2.out, HPM.out]
    exact ⟨rfl, HK.out.trans HK8.out⟩
  obtain rfl : z = 8 := by omega
  clear hsz
  go_wp2_with fail
  refine (f_power 64 (by omega) _).mono ?_
  rintro r w_ ⟨rfl, rfl⟩
  obtain ⟨nm, hnm⟩ : ∃ nm, n % 18446744073709551616 = nm := ⟨_, rfl⟩
  have hnl : nm < 18446744073709551616 := by rw [← hnm]; exact Nat.mod_lt _ (by decide)
  have hand : bits .and .u64 (n : Int) 18446744073709551615 = (nm : Int) := by rw [← hnm]; exact and_pow n 64 HQ.out (by omega)
  have HPM : Hid (putL k x = leL 8 nm) := hid (by rw [HPL.out, ← hnm])
  clear hnm
  go_wp2_with fail
  clear hand
  have hnum := oct_num8 nm hnl q q (.slice none 0 0) [] w7 (by simp) HWS7.out
  refine hnum.mono ?_
  clear hnum
  rintro r w8 ⟨sv, rfl, hwn⟩
  have HWN := hid hwn
  have HK8 : Hid (Keep (fun _ => False) w3 w8) := hid (keep_new HK7.out hwn.keep (fun g hg => by
    rcases hg with rfl | hg
    · have := HK4.out.size; have := HQ4.out; omega
    · cases hg))
  clear hwn
  go_wp2_with fail
  refine (wr_string q q sv _ _ HWN.out.st).mono ?_
  rintro r w9 ⟨rfl, rfl⟩
  go_wp2
  (try simp only [Exit.inBlock, Exit.then])
  refine bodyPost_ret (results_tt' rfl _) rfl ?_
  rw [G1.out, G2.out, HPM.out]
  exact ⟨rfl, HK.out.trans HK8.out⟩
end Go.Proofs.Ytkgkcnmnfhehfaa

namespace Go.Proofs.TMap
open Go.RowKit Go.Proofs.Heap Go.WideMaps

/-- Block b is a map of at most n entries, true just where f is. -/
def TM (P : Program) (tK tE : TypeId) (w : World) (b n : Nat) (f : List UInt8 → Bool) : Prop :=
  ∃ D : DataW Unit, w.ownsMap P tK (plainElem P tE) b n D ∧ Maps.IsMap D ∧ ∀ l, D.atKey (.string l) (.lit (.bool false)) = .lit (.bool (f l))

section
variable {P : Program} {tK tE : TypeId} {w : World} {b n : Nat} {f : List UInt8 → Bool}

theorem TM.made (w : World) : TM P tK tE (w.alloc (.map #[] 0)) w.heap.size 0 (fun _ => false) :=
  ⟨_, World.ownsMap_made w P tK _, ⟨_, rfl⟩, fun _ => rfl⟩
theorem TM.lt (h : TM P tK tE w b n f) : b < w.heap.size := by obtain ⟨D, h1, _⟩ := h; exact h1.lt
theorem TM.keep {w' : World} (h : TM P tK tE w b n f) (hk : w'.heap[b]? = w.heap[b]?) : TM P tK tE w' b n f := by
  obtain ⟨D, ⟨es, clock, h1, h2⟩, h3⟩ := h
  exact ⟨D, ⟨es, clock, hk.trans h1, h2⟩, h3⟩

/-- 'm[s]'. -/
theorem TM.look {t : TypeId} (h : TM P tK tE w b n f) (hk : P.underlying tK = some .string) (ht : P.underlying t = some (.map tK tE)) (he : P.underlying tE = some .bool) (hz : (zeroValue tE).run P w = .ok (.bool false) w) (s : ByteArray) (hs : s.size ≤ maxLen) :
    (Instr.lookup t (.map (some b)) (.string s) false).run P w = .ok (.bool (f s.data.toList)) w := by
  obtain ⟨D, h1, h2, h3⟩ := h
  obtain ⟨v, ps, hrun, hv⟩ := h1.lookup (Maps.string_keyed hk) ht hz (plainElem_bool he false) (keyOf_string_mk hk hs)
  rw [h3] at hv
  rw [hrun]
  cases v <;> simp [plainElem, he] at hv
  · rw [hv.1]

/-- 'm[s] = true', at the operation. -/
theorem wpList_tm_put {ops : Array Oper} {rest : List Oper} {o : Oper} {a : Act} {Q : Exit → Act → World → Prop} (hg : o.guard = none) (m x v : Operand) (t : TypeId) (hop : o.op = Op.mapUpdate t m x v)
    (hk : P.underlying tK = some .string) (ht : P.underlying t = some (.map tK tE)) (he : P.underlying tE = some .bool)
    (h : TM P tK tE w b n f) (hn : n < maxLen) (hm : a.eval m = .map (some b)) (s : ByteArray) (hs : s.size ≤ maxLen) (hx : a.eval x = .string s) (hv : a.eval v = .bool true)
    (hK : ∀ w', TM P tK tE w' b (n + 1) (fun l => decide (l = s.data.toList) || f l) → w.grownBy w' (some b) → wpList P ops Q rest (a.put o.dst undef) w') : wpList P ops Q (o :: rest) a w := by
  obtain ⟨D, h1, h2, h3⟩ := h
  refine wpList_mapUpdate_own w hg m x v t hop tK tE (Maps.string_keyed hk) ht _ b n D hm h1 hn _ _ _ hx hv (keyOf_string_mk hk hs) _ [] (plainElem_bool he true) ?_
  intro w' g1 g2
  refine hK w' ⟨_, g1, ?_, fun l => ?_⟩ g2
  · obtain ⟨es, rfl⟩ := h2; exact ⟨_, rfl⟩
  · by_cases hl : l = s.data.toList
    · rw [hl, Maps.atKey_put_same h2 (by trivial)]; simp
    · rw [Maps.atKey_put_other (fun e => hl (by injection e)), h3]; simp [hl]
end
end Go.Proofs.TMap

namespace Go.Proofs.Ytkgkcnmnfhehfaa
open Go.RowKit Go.Proofs.Heap Go.Proofs.Sch Go.Proofs.TMap

/-- Whether a text is in a list. -/
def memB (s : ByteArray) (ns : List ByteArray) : Bool := ns.any (fun m => decide (s = m))
/-- Whether names stop a check: one isn't a name, or was there. -/
def fldBad : List ByteArray → List Fld → Bool
  | _, [] => false
  | seen, f :: r => !nameB f.name || (memB f.name seen || fldBad (seen ++ [f.name]) r)
/-- The error of fields with their names. -/
def fieldsC (fs : List Fld) : Nat := if fldBad [] fs = true then 4 else layC fs

def seenF (ns : List ByteArray) : List UInt8 → Bool := fun l => ns.any (fun m => decide (l = m.data.toList))
theorem seenF_mem (ns : List ByteArray) (s : ByteArray) : seenF ns s.data.toList = memB s ns := by
  have h : ∀ m : ByteArray, (s.data.toList = m.data.toList) ↔ s = m := fun m => ⟨fun e => by cases s; cases m; simp at e; simp [e], fun e => e ▸ rfl⟩
  unfold seenF memB
  congr 1
  funext m
  simp only [h m]
theorem seenF_put (ns : List ByteArray) (s : ByteArray) : (fun l => decide (l = s.data.toList) || seenF ns l) = seenF (ns ++ [s]) := by
  funext l
  unfold seenF
  rw [List.any_append]
  simp [Bool.or_comm]
theorem drop_next {α : Type} {l : List α} {k : Nat} {x : α} (h : l[k]? = some x) : l.drop k = x :: l.drop (k + 1) := by
  obtain ⟨hk, rfl⟩ := List.getElem?_eq_some_iff.1 h
  exact List.drop_eq_getElem_cons hk
theorem nameB_size {s : ByteArray} (h : nameB s = true) : s.size ≤ 12 := (of_decide_eq_true h).2.1
theorem zero_bool (w : World) : (zeroValue 4).run Try.prog w = .ok (.bool false) w := by kernel_rfl

abbrev TS := TM Try.prog 9 4

end Go.Proofs.Ytkgkcnmnfhehfaa

namespace Go.Proofs.Ytkgkcnmnfhehfaa
open Go.RowKit Go.Proofs.Heap Go.Proofs.Sch Go.Proofs.Wide

/-- A reader in block b: the bytes that are left, and whether it is bad. -/
def RdS (w : World) (b : Nat) (s : ByteArray) (bad : Bool) : Prop := w.heap[b]? = some (.cells #[.string s, .bool bad] 129 (0, 0))
theorem RdS.keep0 {w w' : World} {b : Nat} {s : ByteArray} {bad : Bool} (h : RdS w b s bad) (hk : Keep (fun _ => False) w w') : RdS w' b s bad := hk.get h id

theorem rd_read (s : ByteArray) (w : World) : Calls Try.prog 58 #[.string s] w fun r w' => r = .returned (.pointer (some ⟨w.heap.size, 0, none⟩)) ∧ RdS w' w.heap.size s false ∧ Keep (fun _ => False) w w' := by
  go_enter Try.func58, Try.ntmps58
  go_wp2
  go_ret
  exact ⟨rfl, heap_alloc_new w _, (Keep.refl _ w).alloc _⟩
theorem rd_bad (b : Nat) (s : ByteArray) (bad : Bool) (w : World) (h : RdS w b s bad) : Calls Try.prog 77 #[.pointer (some ⟨b, 0, none⟩)] w fun r w' => r = .returned (.bool bad) ∧ w = w' := by
  have c1 : w.cell? ⟨b, 1, none⟩ = some (.bool bad) := cell_of h (by rfl)
  clear h
  go_enter Try.func77, Try.ntmps77
  cases bad
  all_goals
    go_wp2
    go_ret
    exact ⟨rfl, rfl⟩
theorem rd_left (b : Nat) (s : ByteArray) (bad : Bool) (w : World) (h : RdS w b s bad) : Calls Try.prog 79 #[.pointer (some ⟨b, 0, none⟩)] w fun r w' => r = .returned (iV (if bad = true then 0 else s.size)) ∧ w = w' := by
  have c0 : w.cell? ⟨b, 0, none⟩ = some (.string s) := cell_of h (by rfl)
  have H := hid h
  clear h
  go_enter Try.func79, Try.ntmps79
  go_wp2_with fail
  refine (rd_bad b s bad _ H.out).mono ?_
  rintro r w' ⟨rfl, rfl⟩
  cases bad
  all_goals
    go_wp2
    go_ret
    exact ⟨rfl, rfl⟩
theorem rd_done (b : Nat) (s : ByteArray) (bad : Bool) (w : World) (h : RdS w b s bad) : Calls Try.prog 61 #[.pointer (some ⟨b, 0, none⟩)] w fun r w' => r = .returned (.bool (!bad && decide (s.size = 0))) ∧ w = w' := by
  have c0 : w.cell? ⟨b, 0, none⟩ = some (.string s) := cell_of h (by rfl)
  have H := hid h
  clear h
  go_enter Try.func61, Try.ntmps61
  go_wp2_with fail
  refine (rd_bad b s bad _ H.out).mono ?_
  rintro r w' ⟨rfl, rfl⟩
  cases bad
  · by_cases hz : s.size = 0
    · have e1 : s.toList.isEmpty = true := empty_yes hz
      have G : Hid ((!false && decide (s.size = 0)) = true) := hid (by rw [decide_eq_true hz]; rfl)
      clear hz
      go_wp2
      go_ret
      exact ⟨by rw [G.out]; rfl, rfl⟩
    · have e1 : s.toList.isEmpty = false := empty_no hz
      have G : Hid ((!false && decide (s.size = 0)) = false) := hid (by rw [decide_eq_false hz]; rfl)
      clear hz
      go_wp2
      go_ret
      exact ⟨by rw [G.out]; rfl, rfl⟩
  · go_wp2
    go_ret
    exact ⟨rfl, rfl⟩
/-- The number that bytes are, little end first. -/
def leN : List UInt8 → Nat
  | [] => 0
  | b :: r => b.toNat + 256 * leN r
theorem leN_lt : ∀ l : List UInt8, leN l < 256 ^ l.length
  | [] => by decide
  | b :: r => by
    have := leN_lt r
    have hb : b.toNat < 256 := b.toNat_lt
    rw [leN, List.length_cons, Nat.pow_succ]
    omega
theorem leL_leN : ∀ (l : List UInt8), leL l.length (leN l) = l
  | [] => rfl
  | b :: r => by
    have hb : b.toNat < 256 := b.toNat_lt
    rw [List.length_cons, leL, leN]
    have h1 : (b.toNat + 256 * leN r) / 256 = leN r := by omega
    have h2 : UInt8.ofNat (b.toNat + 256 * leN r) = b := by
      apply UInt8.toNat.inj
      rw [UInt8.toNat_ofNat']
      omega
    rw [h1, h2, leL_leN r]
theorem leN_leL : ∀ (k m : Nat), leN (leL k m) = m % 256 ^ k
  | 0, m => by simp [leL, leN, Nat.mod_one]
  | k + 1, m => by
    have h : 256 ^ (k + 1) = 256 * 256 ^ k := by rw [Nat.pow_succ, Nat.mul_comm]
    rw [leL, leN, leN_leL k (m / 256), UInt8.toNat_ofNat', h, Nat.mod_mul]
/-- The first bytes' number. -/
def firstN (s : ByteArray) (wd : Nat) : Nat := leN (s.data.toList.take wd)
theorem wide_le {wd : Nat} (h : WideOk wd) : 1 ≤ wd ∧ wd ≤ 8 := by unfold WideOk at h; omega
theorem pow_le {a b : Nat} (h : a ≤ b) : 256 ^ a ≤ 256 ^ b := Nat.pow_le_pow_right (by decide) h

set_option maxRecDepth 20000 in
set_option maxHeartbeats 8000000 in
theorem rd_see (b : Nat) (s : ByteArray) (bad : Bool) (wd : Nat) (hwd : WideOk wd) (w : World) (h : RdS w b s bad) :
    Calls Try.prog 73 #[.pointer (some ⟨b, 0, none⟩), .int .i64 (wd : Int)] w fun r w' => r = .returned (if bad = false ∧ wd ≤ s.size then .tuple #[.int .u64 (firstN s wd : Int), .bool true] else .tuple #[.int .u64 0, .bool false]) ∧ w = w' := by
  have c0 : w.cell? ⟨b, 0, none⟩ = some (.string s) := cell_of h (by rfl)
  have H := hid h
  have HWD := hid (wide_le hwd)
  have HW := hid hwd
  have hw8 := (wide_le hwd).2
  clear h hwd
  have HP : Hid (∀ X : Value, (if bad = false ∧ wd ≤ s.size then .tuple #[.int .u64 (firstN s wd : Int), .bool true] else .tuple #[.int .u64 0, .bool false]) = X → X = (if bad = false ∧ wd ≤ s.size then .tuple #[.int .u64 (firstN s wd : Int), .bool true] else .tuple #[.int .u64 0, .bool false])) := hid (fun X h => h.symm)
  generalize hR : (if bad = false ∧ wd ≤ s.size then Value.tuple #[.int .u64 (firstN s wd : Int), .bool true] else .tuple #[.int .u64 0, .bool false]) = R at *
  have HR := hid hR
  clear HP hR
  go_enter Try.func73, Try.ntmps73
  go_wp2_with fail
  refine (oct_wide wd HW.out _).mono ?_
  rintro r w1 ⟨rfl, rfl⟩
  go_wp2_with fail
  refine (rd_left b s bad _ H.out).mono ?_
  rintro r w1 ⟨rfl, rfl⟩
  by_cases hg : bad = false ∧ wd ≤ s.size
  rotate_left
  · obtain ⟨z, hz⟩ : ∃ z, (if bad = true then 0 else s.size) = z := ⟨_, rfl⟩
    have hzw : z < wd := by
      rw [← hz]
      have := HWD.out
      cases bad
      · simp at hg ⊢; omega
      · simp; omega
    rw [hz]
    have g1 : decide ((z : Int) < (wd : Int)) = true := decide_eq_true (by omega)
    have g2 : decide (z < wd) = true := decide_eq_true hzw
    have HE : Hid (R = .tuple #[.int .u64 0, .bool false]) := hid (by rw [← HR.out, if_neg hg])
    clear hz hg
    go_wp2
    (try simp only [Exit.inBlock, Exit.then])
    refine bodyPost_ret (results_tt' rfl _) rfl ?_
    exact ⟨by rw [HE.out]; rfl, rfl⟩
  obtain ⟨rfl, hle⟩ := hg
  have HE : Hid (R = .tuple #[.int .u64 (firstN s wd : Int), .bool true]) := hid (by rw [← HR.out, if_pos ⟨rfl, hle⟩])
  have g1 : decide ((s.size : Int) < (wd : Int)) = false := decide_eq_false (by omega)
  have g2 : decide (s.size < wd) = false := decide_eq_false (by omega)
  simp only [Bool.false_eq_true, if_false]
  go_wp2_with fail
  clear g1 g2
  go_loopw [6, 7] (fun n i wr => ∃ k : Nat, k ≤ wd ∧ i = .int .i64 ((k : Int) - 1) ∧ n = .int .u64 (leN ((s.data.toList.take wd).drop k) : Int) ∧ w = wr) (fun _ i _ => ((intOf i) + 1).toNat)
  case atStart => exact ⟨wd, Nat.le_refl _, rfl, by rw [List.drop_of_length_le (by rw [List.length_take]; omega)]; rfl, rfl⟩
  case round =>
    obtain ⟨k, hk, rfl, rfl, rfl⟩ := hrel
    by_cases hk0 : k = 0
    · subst hk0
      have g1 : decide ((0 : Int) ≤ ((0 : Nat) : Int) - 1) = false := by decide
      go_wp2
      (try simp only [Exit.inBlock, Exit.then])
      refine bodyPost_ret (results_tt' rfl _) rfl ?_
      exact ⟨by rw [HE.out]; rfl, rfl⟩
    · obtain ⟨j, rfl⟩ : ∃ j, k = j + 1 := ⟨k - 1, by omega⟩
      have e1 : (((j + 1 : Nat) : Int) - 1) = (j : Int) := by omega
      rw [e1]
      have hjs : j < s.size := by omega
      have g1 : decide ((0 : Int) ≤ (j : Int)) = true := decide_eq_true (by omega)
      have hlm : leN ((s.data.toList.take wd).drop (j + 1)) < 72057594037927936 := by
        have h1 := leN_lt ((s.data.toList.take wd).drop (j + 1))
        have h2 : ((s.data.toList.take wd).drop (j + 1)).length ≤ 7 := by rw [List.length_drop, List.length_take]; omega
        have h3 := pow_le h2
        exact Nat.lt_of_lt_of_le h1 h3
      have hst : leN ((s.data.toList.take wd).drop j) = (s[j]'hjs).toNat + 256 * leN ((s.data.toList.take wd).drop (j + 1)) := by
        have h1 : (s.data.toList.take wd)[j]? = some (s[j]'hjs) := by
          rw [List.getElem?_take_of_lt (by omega), Array.getElem?_toList]
          exact Array.getElem?_eq_getElem hjs
        rw [drop_next h1, leN]
      obtain ⟨bt, hbt⟩ : ∃ bt, (s[j]'hjs).toNat = bt := ⟨_, rfl⟩
      have hb256 : bt < 256 := by rw [← hbt]; exact (s[j]'hjs).toNat_lt
      rw [hbt] at hst
      have HST := hid hst
      clear hst
      generalize leN ((s.data.toList.take wd).drop (j + 1)) = m at *
      have hor : bits .or .u64 ((m : Int) * 256) (bt : Int) = ((m * 256 + bt : Nat) : Int) := by
        rw [bits_join .u64 64 (by decide) wraps64 8 _ _ (by omega) (by omega) (by omega) (by omega) (by omega) (by omega)]
        omega
      have hwb : IntKind.u64.wrap (bt : Int) = (bt : Int) := wraps64 _ (by omega) (by omega)
      have hin : (0 : Int) ≤ (j : Int) ∧ (j : Int) < (s.size : Int) := ⟨by omega, by omega⟩
      obtain ⟨mm, hmm⟩ : ∃ mm, m * 256 + bt = mm := ⟨_, rfl⟩
      rw [hmm] at hor
      have HMM : Hid (leN ((s.data.toList.take wd).drop j) = mm) := hid (by rw [HST.out, ← hmm]; omega)
      clear hmm
      go_wp2
      go_roundw
      case rel => exact ⟨j, by omega, by go_num, by rw [HMM.out], by first | rfl | trivial⟩
      case measure => simp [intOf]

/-- A reader that has taken: what is answered, what is left, whether it is bad. -/
structure Took (w w' : World) (b : Nat) (r : Ending) (t s' : ByteArray) (bad' : Bool) : Prop where
  res : r = .returned (.string t)
  st : RdS w' b s' bad'
  keep : Keep (fun g => g = b) w w'

set_option maxRecDepth 20000 in
set_option maxHeartbeats 8000000 in
theorem rd_take_bad (b : Nat) (s : ByteArray) (fr n : Int) (is : Bool) (w : World) (h : RdS w b s true) :
    Calls Try.prog 74 #[.pointer (some ⟨b, 0, none⟩), .int .i64 fr, .int .i64 n, .bool is] w fun r w' => Took w w' b r ⟨#[]⟩ s true := by
  have H := hid h
  clear h
  go_enter Try.func74, Try.ntmps74
  go_wp2_with fail
  refine (rd_bad b s true _ H.out).mono ?_
  rintro r w' ⟨rfl, rfl⟩
  go_wp2
  go_ret
  exact ⟨rfl, H.out, Keep.refl _ _⟩
set_option maxRecDepth 20000 in
set_option maxHeartbeats 8000000 in
theorem rd_take_no (b : Nat) (s : ByteArray) (fr : Nat) (n : Int) (is : Bool) (w : World) (hfr : fr ≤ 9) (hs : s.size ≤ 9223372036854775807) (hno : is = false ∨ n < 0 ∨ (s.size : Int) - fr < n) (h : RdS w b s false) :
    Calls Try.prog 74 #[.pointer (some ⟨b, 0, none⟩), .int .i64 (fr : Int), .int .i64 n, .bool is] w fun r w' => Took w w' b r ⟨#[]⟩ s true := by
  have c0 : w.cell? ⟨b, 0, none⟩ = some (.string s) := cell_of h (by rfl)
  have c1 : w.cell? ⟨b, 1, none⟩ = some (.bool false) := cell_of h (by rfl)
  have f1 : w.frozen? ⟨b, 1, none⟩ = false := free_of h 1
  have H := hid h
  have HE : Hid (Took w (w.setCell ⟨b, 1, none⟩ (.bool true)) b (.returned (.string ⟨#[]⟩)) ⟨#[]⟩ s true) := hid ⟨rfl, hsc_same h 1 _, (Keep.refl (fun g => g = b) w).setCell (p := ⟨b, 1, none⟩) rfl _⟩
  clear h
  go_enter Try.func74, Try.ntmps74
  go_wp2_with fail
  refine (rd_bad b s false _ H.out).mono ?_
  rintro r w' ⟨rfl, rfl⟩
  cases is
  · go_wp2
    go_ret
    exact HE.out
  by_cases h1 : n < 0
  · have g1 : decide (n < 0) = true := decide_eq_true h1
    clear hno
    go_wp2
    go_ret
    exact HE.out
  have g1 : decide (n < 0) = false := decide_eq_false h1
  have h2 : (s.size : Int) - fr < n := by rcases hno with h | h | h; exact absurd h (by simp); exact absurd h h1; exact h
  have g2 : decide ((s.size : Int) - (fr : Int) < n) = true := decide_eq_true h2
  clear hno h1 h2
  go_wp2
  go_ret
  exact HE.out
set_option maxRecDepth 20000 in
set_option maxHeartbeats 8000000 in
theorem rd_take_yes (b : Nat) (s : ByteArray) (fr n : Nat) (w : World) (hs : s.size ≤ 9223372036854775807) (hle : fr + n ≤ s.size) (h : RdS w b s false) :
    Calls Try.prog 74 #[.pointer (some ⟨b, 0, none⟩), .int .i64 (fr : Int), .int .i64 (n : Int), .bool true] w fun r w' => Took w w' b r (s.extract fr (fr + n)) (s.extract (fr + n) s.size) false := by
  have c0 : w.cell? ⟨b, 0, none⟩ = some (.string s) := cell_of h (by rfl)
  have c1 : w.cell? ⟨b, 1, none⟩ = some (.bool false) := cell_of h (by rfl)
  have f0 : w.frozen? ⟨b, 0, none⟩ = false := free_of h 0
  have H := hid h
  have HE : Hid (∀ t, Took w (w.setCell ⟨b, 0, none⟩ (.string (s.extract (fr + n) s.size))) b (.returned (.string t)) t (s.extract (fr + n) s.size) false) := hid (fun t => ⟨rfl, hsc_same h 0 _, (Keep.refl (fun g => g = b) w).setCell (p := ⟨b, 0, none⟩) rfl _⟩)
  clear h
  go_enter Try.func74, Try.ntmps74
  go_wp2_with fail
  refine (rd_bad b s false _ H.out).mono ?_
  rintro r w' ⟨rfl, rfl⟩
  have g1 : decide ((n : Int) < 0) = false := decide_eq_false (by omega)
  have g2 : decide ((s.size : Int) - (fr : Int) < (n : Int)) = false := decide_eq_false (by omega)
  have g3 : (0 : Int) ≤ (fr : Int) ∧ (fr : Int) ≤ (fr : Int) + (n : Int) ∧ (fr : Int) + (n : Int) ≤ (s.size : Int) := ⟨by omega, by omega, by omega⟩
  go_wp2
  go_ret
  exact HE.out _

set_option maxRecDepth 20000 in
set_option maxHeartbeats 8000000 in
theorem rd_num_yes (b : Nat) (s : ByteArray) (wd : Nat) (hwd : WideOk wd) (w : World) (hs : s.size ≤ 9223372036854775807) (hle : wd ≤ s.size) (h : RdS w b s false) :
    Calls Try.prog 59 #[.pointer (some ⟨b, 0, none⟩), .int .i64 (wd : Int)] w fun r w' => r = .returned (.int .u64 (firstN s wd : Int)) ∧ RdS w' b (s.extract wd s.size) false ∧ Keep (fun g => g = b) w w' := by
  have H := hid h
  clear h
  go_enter Try.func59, Try.ntmps59
  go_wp2_with fail
  refine (rd_see b s false wd hwd _ H.out).mono ?_
  rw [if_pos ⟨rfl, hle⟩]
  rintro r w1 ⟨rfl, rfl⟩
  go_wp2_with fail
  have ht := rd_take_yes b s 0 wd w hs (by omega) H.out
  simp only [Nat.zero_add] at ht
  refine ht.mono ?_
  clear ht
  rintro r w2 ⟨rfl, h1, h2⟩
  have H1 := hid h1; have H2 := hid h2
  clear h1 h2
  go_wp2
  go_ret
  exact ⟨rfl, H1.out, H2.out⟩
set_option maxRecDepth 20000 in
set_option maxHeartbeats 8000000 in
theorem rd_num_no (b : Nat) (s : ByteArray) (bad : Bool) (wd : Nat) (hwd : WideOk wd) (w : World) (hs : s.size ≤ 9223372036854775807) (hno : bad = true ∨ s.size < wd) (h : RdS w b s bad) :
    Calls Try.prog 59 #[.pointer (some ⟨b, 0, none⟩), .int .i64 (wd : Int)] w fun r w' => r = .returned (.int .u64 0) ∧ RdS w' b s true ∧ Keep (fun g => g = b) w w' := by
  have H := hid h
  clear h
  go_enter Try.func59, Try.ntmps59
  go_wp2_with fail
  refine (rd_see b s bad wd hwd _ H.out).mono ?_
  rw [if_neg (by rintro ⟨rfl, h⟩; rcases hno with h1 | h1; cases h1; omega)]
  rintro r w1 ⟨rfl, rfl⟩
  go_wp2_with fail
  cases bad
  · refine (rd_take_no b s 0 wd false w (by omega) hs (.inl rfl) H.out).mono ?_
    rintro r w2 ⟨rfl, h1, h2⟩
    have H1 := hid h1; have H2 := hid h2
    clear h1 h2
    go_wp2
    go_ret
    exact ⟨rfl, H1.out, H2.out⟩
  · refine (rd_take_bad b s 0 wd false w H.out).mono ?_
    rintro r w2 ⟨rfl, h1, h2⟩
    have H1 := hid h1; have H2 := hid h2
    clear h1 h2
    go_wp2
    go_ret
    exact ⟨rfl, H1.out, H2.out⟩
end Go.Proofs.Ytkgkcnmnfhehfaa

namespace Go.Proofs.Ytkgkcnmnfhehfaa
open Go.RowKit Go.Proofs.Heap

theorem sizeK_out {k : Int} (h : k < 1 ∨ 10 < k) : sizeK k = 0 := by
  unfold sizeK
  rw [if_neg (by omega), if_neg (by omega), if_neg (by omega), if_neg (by omega)]

abbrev NB : Array Value := #[.int .i64 0, .int .i64 1, .int .i64 1, .int .i64 2, .int .i64 4, .int .i64 8, .int .i64 1, .int .i64 2, .int .i64 4, .int .i64 8, .int .i64 8]

set_option maxRecDepth 20000 in
set_option maxHeartbeats 2000000 in
theorem r_bytes (k : Int) (w : World) : Calls Try.prog 37 #[.int .i64 k] w fun r w' => r = .returned (.int .i64 (sizeK k)) ∧ Keep (fun _ => False) w w' := by
  go_enter Try.func37, Try.ntmps37
  by_cases h1 : k < 1
  · have g1 : decide (k < 1) = true := decide_eq_true h1
    have G := hid (sizeK_out (.inl h1))
    clear h1
    go_wp2
    go_ret
    exact ⟨by rw [G.out]; rfl, Keep.refl _ _⟩
  have g1 : decide (k < 1) = false := decide_eq_false h1
  by_cases h2 : 10 < k
  · have g2 : decide (10 < k) = true := decide_eq_true h2
    have G := hid (sizeK_out (.inr h2))
    clear h1 h2
    go_wp2
    go_ret
    exact ⟨by rw [G.out]; rfl, Keep.refl _ _⟩
  have g2 : decide (10 < k) = false := decide_eq_false h2
  have hb := heap_alloc_new w (.cells NB 110)
  have HK := hid ((Keep.refl (fun _ => False) w).alloc (.cells NB 110))
  have HB := hid hb
  clear hb
  have hc : k = 1 ∨ k = 2 ∨ k = 3 ∨ k = 4 ∨ k = 5 ∨ k = 6 ∨ k = 7 ∨ k = 8 ∨ k = 9 ∨ k = 10 := by omega
  clear h1 h2
  go_upto_region 4 with fail
  generalize w.alloc (.cells NB 110) = w1 at *
  generalize w.heap.size = b at *
  clear g1 g2
  rcases hc with rfl | rfl | rfl | rfl | rfl | rfl | rfl | rfl | rfl | rfl
  · have c : w1.cell? ⟨b, 1, none⟩ = some (.int .i64 1) := cell_of HB.out (by rfl)
    go_wp2
    go_ret
    exact ⟨by rfl, HK.out⟩
  · have c : w1.cell? ⟨b, 2, none⟩ = some (.int .i64 1) := cell_of HB.out (by rfl)
    go_wp2
    go_ret
    exact ⟨by rfl, HK.out⟩
  · have c : w1.cell? ⟨b, 3, none⟩ = some (.int .i64 2) := cell_of HB.out (by rfl)
    go_wp2
    go_ret
    exact ⟨by rfl, HK.out⟩
  · have c : w1.cell? ⟨b, 4, none⟩ = some (.int .i64 4) := cell_of HB.out (by rfl)
    go_wp2
    go_ret
    exact ⟨by rfl, HK.out⟩
  · have c : w1.cell? ⟨b, 5, none⟩ = some (.int .i64 8) := cell_of HB.out (by rfl)
    go_wp2
    go_ret
    exact ⟨by rfl, HK.out⟩
  · have c : w1.cell? ⟨b, 6, none⟩ = some (.int .i64 1) := cell_of HB.out (by rfl)
    go_wp2
    go_ret
    exact ⟨by rfl, HK.out⟩
  · have c : w1.cell? ⟨b, 7, none⟩ = some (.int .i64 2) := cell_of HB.out (by rfl)
    go_wp2
    go_ret
    exact ⟨by rfl, HK.out⟩
  · have c : w1.cell? ⟨b, 8, none⟩ = some (.int .i64 4) := cell_of HB.out (by rfl)
    go_wp2
    go_ret
    exact ⟨by rfl, HK.out⟩
  · have c : w1.cell? ⟨b, 9, none⟩ = some (.int .i64 8) := cell_of HB.out (by rfl)
    go_wp2
    go_ret
    exact ⟨by rfl, HK.out⟩
  · have c : w1.cell? ⟨b, 10, none⟩ = some (.int .i64 8) := cell_of HB.out (by rfl)
    go_wp2
    go_ret
    exact ⟨by rfl, HK.out⟩
end Go.Proofs.Ytkgkcnmnfhehfaa

namespace Go.Proofs.Ytkgkcnmnfhehfaa
open Go.RowKit Go.Proofs.Heap Go.Proofs.Sch Go.Proofs.Wide

/-- How many elements the fields have. -/
def sumN : List Fld → Nat
  | [] => 0
  | f :: r => f.count.toNat + sumN r
theorem sumN_append (a b : List Fld) : sumN (a ++ b) = sumN a + sumN b := by
  induction a with
  | nil => simp [sumN]
  | cons x a ih => simp [sumN, ih]; omega
theorem layC_zero {fs : List Fld} (h : layC fs = 0) : fs.length ≤ 8 ∧ (∀ f ∈ fs, okF f) := by
  unfold layC at h
  by_cases h1 : 8 < fs.length
  · rw [if_pos h1] at h; omega
  · rw [if_neg h1] at h
    by_cases h2 : ∀ f ∈ fs, okF f
    · exact ⟨by omega, h2⟩
    · rw [if_neg h2] at h; omega
theorem sumN_next {fs : List Fld} {k : Nat} {f : Fld} (h : fs[k]? = some f) : sumN (fs.take (k + 1)) = sumN (fs.take k) + f.count.toNat := by
  rw [take_next h, sumN_append]; simp [sumN]
theorem sumN_le (fs : List Fld) (h : ∀ f ∈ fs, okF f) : sumN fs ≤ 8 * fs.length := by
  induction fs with
  | nil => simp [sumN]
  | cons f r ih =>
    have h1 := (h f (by simp)).2
    have h2 := ih (fun g hg => h g (by simp [hg]))
    simp only [sumN, List.length_cons]
    omega

set_option maxRecDepth 20000 in
set_option maxHeartbeats 1000000 in
theorem lay_start (fs : List Fld) (p : Option Addr) (cap n : Nat) (w : World) (h0 : layC fs = 0) (hn : n < fs.length) (hcap : fs.length ≤ cap) (hf : FP w w.heap.size p fs) :
    Calls Try.prog 23 #[.slice p fs.length cap, .int .i64 (n : Int)] w fun r w' => r = .returned (iV (sumN (fs.take n))) ∧ Keep (fun _ => False) w w' := by
  have HF := hid hf
  have hlt0 : 0 < fs.length := Nat.lt_of_le_of_lt (Nat.zero_le _) hn
  obtain ⟨b0, off0, rfl, hb0, hq0⟩ := FP.at hf (List.getElem?_eq_getElem hlt0)
  have hok := layC_zero h0
  have HOK := hid hok.2
  have hl8 := hok.1
  clear hf hok hq0
  go_enter Try.func23, Try.ntmps23
  go_wp2_with fail
  refine (layout_check fs _ cap _ HF.out).mono ?_
  rintro r w1 ⟨rfl, hk1⟩
  rw [h0]
  have HK1 := hid hk1
  have g1 : decide ((fs.length : Int) ≤ (n : Int)) = false := decide_eq_false (by omega)
  have g2 : decide (fs.length ≤ n) = false := decide_eq_false (by omega)
  have hin0 : (0 : Int) ≤ (n : Int) ∧ (n : Int) ≤ (cap : Int) := ⟨by omega, by omega⟩
  clear hk1
  go_wp2_with fail
  go_loopw [5, 7, 25] (fun s _ i wr => ∃ k : Nat, k ≤ n ∧ i = iV k ∧ s = iV (sumN (fs.take k)) ∧ Keep (fun _ => False) w1 wr ∧ sumN (fs.take k) ≤ 8 * k) (fun _ _ i _ => n + 1 - (intOf i).toNat)
  case atStart => exact ⟨0, by omega, rfl, rfl, Keep.refl _ _, by simp [sumN]⟩
  case round =>
    obtain ⟨k, hk, rfl, rfl, hkeep, hle⟩ := hrel
    have HK := hid (HK1.out.trans hkeep); have HK2 := hid hkeep
    clear hkeep
    by_cases hlt : k < n
    · obtain ⟨f, hfk⟩ : ∃ f, fs[k]? = some f := ⟨fs[k]'(by omega), by simp [show k < fs.length by omega]⟩
      have hof := (HOK.out f (List.mem_of_getElem? hfk)).2
      obtain ⟨b, off, e, hb, c0, c1, c2⟩ := FP.at (FP.low HF.out (Low.keep0 HK.out)) hfk
      injection e with e
      injection e with e1 e2
      subst e1; subst e2
      have hin : (0 : Int) ≤ (k : Int) ∧ (k : Int) < (n : Int) := ⟨by omega, by omega⟩
      have hsn := sumN_next hfk
      have HSN := hid hsn
      clear hfk hsn
      obtain ⟨nm, kd, ct⟩ := f
      obtain ⟨cn, rfl⟩ := Int.eq_ofNat_of_zero_le (a := ct) (by have := hof.1; simp only at this; omega)
      simp only at c0 c1 c2 hof
      have hcn : cn ≤ 8 := by omega
      have HK3 := hid (HK2.out.alloc (.cells #[.string nm, .int .i64 kd, .int .i64 (cn : Int)] 41))
      generalize sumN (fs.take k) = sm at *
      go_wp2
      go_roundw
      case rel => exact ⟨k + 1, by omega, by go_num, by rw [HSN.out]; simp, HK3.out, by rw [HSN.out]; simp; omega⟩
      case measure => simp [intOf]; omega
    · obtain rfl : k = n := by omega
      go_wp2
      go_ret
      exact ⟨rfl, HK.out⟩

set_option maxRecDepth 20000 in
set_option maxHeartbeats 1000000 in
theorem lay_elems (fs : List Fld) (p : Option Addr) (cap : Nat) (w : World) (h0 : layC fs = 0) (hcap : fs.length ≤ cap) (hf : FP w w.heap.size p fs) :
    Calls Try.prog 19 #[.slice p fs.length cap] w fun r w' => r = .returned (iV (sumN fs)) ∧ Keep (fun _ => False) w w' := by
  have HF := hid hf
  have hok := layC_zero h0
  have HOK := hid hok.2
  have hl8 := hok.1
  clear hf hok
  go_enter Try.func19, Try.ntmps19
  go_wp2_with fail
  refine (layout_check fs _ cap _ HF.out).mono ?_
  rintro r w1 ⟨rfl, hk1⟩
  rw [h0]
  have HK1 := hid hk1
  clear hk1
  by_cases hz : fs.length = 0
  · have hfs : fs = [] := List.eq_nil_of_length_eq_zero hz
    subst hfs
    go_wp2
    go_ret
    exact ⟨rfl, HK1.out⟩
  have g1 : ((fs.length : Int) == 0) = false := beq_eq_false_iff_ne.2 (by omega)
  have g2 : (fs.length == 0) = false := beq_eq_false_iff_ne.2 hz
  obtain ⟨n, hn⟩ : ∃ n, fs.length = n + 1 := ⟨fs.length - 1, by omega⟩
  obtain ⟨f, hfk⟩ : ∃ f, fs[n]? = some f := ⟨fs[n]'(by omega), by simp [show n < fs.length by omega]⟩
  have hof := (HOK.out f (List.mem_of_getElem? hfk)).2
  obtain ⟨b, off, rfl, hb, c0, c1, c2⟩ := FP.at (FP.low HF.out (Low.keep0 HK1.out)) hfk
  have hsn := sumN_next hfk
  rw [← hn, List.take_length] at hsn
  have hsl := sumN_le (fs.take n) (fun f hf => HOK.out f (List.mem_of_mem_take hf))
  have hsl2 : sumN (fs.take n) ≤ 64 := by rw [List.length_take] at hsl; omega
  have HSN := hid hsn
  have HLS := hid (fun w (hf : FP w w.heap.size (some ⟨b, off, none⟩) fs) => lay_start fs _ cap n w h0 (by omega) hcap hf)
  have HFD := hid (FP.mono (FP.low HF.out (Low.keep0 HK1.out.drew)) HK1.out.drew.size)
  have hf2 : w1.drew.cell? ⟨b, off + n * 3 + 2, none⟩ = some (.int .i64 f.count) := c2
  have HB := hid (Nat.lt_of_lt_of_le hb HK1.out.size)
  clear hfk hsn hsl c0 c1 c2 h0
  generalize f.count = ct at *
  obtain ⟨cn, rfl⟩ := Int.eq_ofNat_of_zero_le (a := ct) (by have := hof.1; omega)
  rw [hn] at g1 g2 ⊢
  have hin : (0 : Int) ≤ (n : Int) ∧ (n : Int) < ((n + 1 : Nat) : Int) := ⟨by omega, by omega⟩
  rw [hn] at HLS
  go_wp2_with fail
  refine Plan.wp_region_pl [(false, 0, []), (false, 1, []), (false, 2, []), (false, 3, []), (false, 5, []), (false, 6, []), (false, 7, []), (false, 8, []), (false, 9, []), (false, 10, []), (false, 11, []), (true, 4, [11, 10, 9, 8, 7, 6, 5]), (false, 12, []), (false, 13, [])] (by kernel_rfl) (by kernel_rfl) ?_
  repeat (refine Plan.pl_st rfl ?_; go_big_quiet_step (fail); refine wpQuiet_nil ?_)
  refine Plan.pl_ac rfl ?_
  go_wp2_with fail
  refine (HLS.out _ HFD.out).mono ?_
  rintro r w2 ⟨rfl, hk2⟩
  have HK2 := hid (HK1.out.drew.trans hk2)
  have hf3 := ((Low.keep0 hk2).cell (o := off + n * 3 + 2) HB.out).trans hf2
  clear hk2 hf2
  generalize sumN (fs.take n) = sm at *
  go_wp2
  refine Plan.plQ_mk ?_ ?_
  · repeat (refine Plan.chk_st rfl ?_ ?_; focus (go_big_quiet_step (fail); exact wpQuiet_nil rfl))
    exact Plan.chk_end
  repeat (refine Plan.pl_st rfl ?_; go_big_quiet_step (fail); refine wpQuiet_nil ?_)
  refine Plan.pl_end ?_
  go_wp2
  go_ret
  exact ⟨by rw [HSN.out]; simp, HK2.out⟩

end Go.Proofs.Ytkgkcnmnfhehfaa

namespace Go.Proofs.Sch
open Go.RowKit Go.Proofs.Heap Go.Proofs.Wide
def IntAt (w : World) (b o : Nat) (x : WI) : Prop := w.cell? ⟨b, o, none⟩ = some (.bool x.neg) ∧ w.cell? ⟨b, o + 1, none⟩ = some (.int .u64 (x.hi : Int)) ∧ w.cell? ⟨b, o + 2, none⟩ = some (.int .u64 (x.lo : Int))
abbrev XP := RowP 3 IntAt
theorem XP.low {w w' : World} {B : Nat} {p : Option Addr} {l : List WI} (h : XP w B p l) (hl : Low B w w') : XP w' B p l :=
  RowP.imp h (Nat.le_refl _) fun b o x hb hx => ⟨by rw [hl.cell hb]; exact hx.1, by rw [hl.cell hb]; exact hx.2.1, by rw [hl.cell hb]; exact hx.2.2⟩
theorem XP.mono {w : World} {B B' : Nat} {p : Option Addr} {l : List WI} (h : XP w B p l) (hB : B ≤ B') : XP w B' p l := RowP.imp h hB fun _ _ _ _ hx => hx
theorem XP.at {w : World} {B : Nat} {p : Option Addr} {l : List WI} (h : XP w B p l) {i : Nat} {f : WI} (hi : l[i]? = some f) : ∃ b off, p = some ⟨b, off, none⟩ ∧ b < B ∧ w.cell? ⟨b, off + i * 3, none⟩ = some (.bool f.neg) ∧ w.cell? ⟨b, off + i * 3 + 1, none⟩ = some (.int .u64 (f.hi : Int)) ∧ w.cell? ⟨b, off + i * 3 + 2, none⟩ = some (.int .u64 (f.lo : Int)) := by
  rcases h with rfl | ⟨b, off, hp, hb, hc⟩
  · simp at hi
  · obtain ⟨h1, h2, h3⟩ := hc i f hi
    exact ⟨b, off, hp, hb, h1, h2, h3⟩
/-- The rest of a row. -/
theorem XP.drop {w : World} {B b off : Nat} {l : List WI} (h : XP w B (some ⟨b, off, none⟩) l) (n : Nat) : XP w B (some ⟨b, off + n * 3, none⟩) (l.drop n) := by
  rcases h with rfl | ⟨b', off', hp, hb, hc⟩
  · exact .inl (by simp)
  · injection hp with hp
    injection hp with h1 h2
    subst h1; subst h2
    refine .inr ⟨_, _, rfl, hb, fun i x hx => ?_⟩
    rw [List.getElem?_drop] at hx
    have := hc (n + i) x hx
    rwa [show off + (n + i) * 3 = off + n * 3 + i * 3 by omega] at this
end Go.Proofs.Sch
namespace Go.Proofs.Ytkgkcnmnfhehfaa
open Go.RowKit Go.Proofs.Heap Go.Proofs.Sch Go.Proofs.Wide

/-- Whether all numbers fit their fields' kinds. -/
def fitRun : List Fld → List WI → Bool
  | [], _ => true
  | f :: r, vs => (vs.take f.count.toNat).all (fitsB f.kind) && fitRun r (vs.drop f.count.toNat)
/-- The error of a value. -/
def fitC (fs : List Fld) (vs : List WI) : Nat := if layC fs = 0 then (if vs.length = sumN fs then (if fitRun fs vs = true then 0 else 3) else 4) else layC fs

set_option maxRecDepth 20000 in
set_option maxHeartbeats 4000000 in
theorem lay_fit (fs : List Fld) (p : Option Addr) (cap : Nat) (vs : List WI) (q : Option Addr) (qc : Nat) (w : World) (hcap : fs.length ≤ cap) (hqc : vs.length ≤ qc) (hvl : vs.length ≤ 65536) (hfit : ∀ x ∈ vs, x.fit) (hf : FP w w.heap.size p fs) (hv : XP w w.heap.size q vs) :
    Calls Try.prog 12 #[.slice p fs.length cap, .slice q vs.length qc] w fun r w' => r = .returned (iV (fitC fs vs)) ∧ Keep (fun _ => False) w w' := by
  have HF := hid hf; have HV := hid hv; have HX := hid hfit
  clear hf hv hfit
  go_enter Try.func12, Try.ntmps12
  go_wp2_with fail
  refine (layout_check fs _ cap _ HF.out).mono ?_
  rintro r w1 ⟨rfl, hk1⟩
  have HK1 := hid hk1
  clear hk1
  generalize hz : layC fs = z at *
  by_cases h0 : z = 0
  rotate_left
  · have g1 : ((z : Int) == 0) = false := beq_eq_false_iff_ne.2 (by omega)
    have g2 : (z == 0) = false := beq_eq_false_iff_ne.2 h0
    have g3 : ((z : Int) != 0) = true := by rw [bne, g1]; rfl
    have g4 : (z != 0) = true := by rw [bne, g2]; rfl
    have G : Hid (fitC fs vs = z) := hid (by unfold fitC; rw [hz, if_neg h0])
    clear h0 hz
    go_wp2
    go_ret
    exact ⟨by rw [G.out]; rfl, HK1.out⟩
  subst h0
  have hok := layC_zero hz
  have HOK := hid hok.2
  have hl8 := hok.1
  have HZ := hid hz
  clear hok hz
  go_wp2_with fail
  refine (lay_elems fs p cap _ HZ.out hcap (FP.mono (FP.low HF.out (Low.keep0 HK1.out)) HK1.out.size)).mono ?_
  rintro r w2 ⟨rfl, hk2⟩
  have HK2 := hid (HK1.out.trans hk2)
  clear hk2
  by_cases hlen : vs.length = sumN fs
  rotate_left
  · have g1 : ((vs.length : Int) == (sumN fs : Int)) = false := beq_eq_false_iff_ne.2 (by omega)
    have g2 : (vs.length == sumN fs) = false := beq_eq_false_iff_ne.2 hlen
    have g3 : ((vs.length : Int) != (sumN fs : Int)) = true := by rw [bne, g1]; rfl
    have g4 : (vs.length != sumN fs) = true := by rw [bne, g2]; rfl
    have G : Hid (fitC fs vs = 4) := hid (by unfold fitC; rw [HZ.out, if_pos rfl, if_neg hlen])
    clear hlen
    go_wp2
    go_ret
    exact ⟨by rw [G.out]; rfl, HK2.out⟩
  have HL := hid hlen
  have HFC : Hid (∀ b, fitRun fs vs = b → fitC fs vs = if b = true then 0 else 3) := hid (fun b hb => by unfold fitC; rw [HZ.out, if_pos rfl, if_pos HL.out, hb])
  have g1 : ((sumN fs : Int) != (sumN fs : Int)) = false := by simp
  rw [hlen]
  rw [hlen] at hqc hvl
  clear hlen
  go_wp2_with fail
  clear g1
  go_loopw [1, 7, 9, 22] (fun vv _ _ i wr => ∃ (k m : Nat) (q' : Option Addr) (c' : Nat) (rs : List WI), k ≤ fs.length ∧ i = iV k ∧ vv = .slice q' m c' ∧ m ≤ c' ∧ m = rs.length ∧ m = sumN (fs.drop k) ∧ m ≤ 65536 ∧ (∀ x ∈ rs, x.fit) ∧ XP w w.heap.size q' rs ∧ fitRun fs vs = fitRun (fs.drop k) rs ∧ Keep (fun _ => False) w wr) (fun _ _ _ i _ => fs.length + 1 - (intOf i).toNat)
  case atStart => exact ⟨0, sumN fs, q, qc, vs, by omega, rfl, rfl, hqc, HL.out.symm, rfl, hvl, HX.out, HV.out, rfl, HK2.out⟩
  case round =>
    obtain ⟨k, m, q', c', rs, hk, rfl, rfl, hmc, hmr, hms, hm6, hfr, hxp, hrun, hkeep⟩ := hrel
    have HK := hid hkeep; have HFR := hid hfr; have HXP := hid hxp; have HRUN := hid hrun
    have HMR := hid hmr; have HMS := hid hms
    clear hkeep hfr hxp hrun hmr hms
    by_cases hlt : k < fs.length
    · obtain ⟨f, hfk⟩ : ∃ f, fs[k]? = some f := ⟨fs[k], by simp [hlt]⟩
      have hof := (HOK.out f (List.mem_of_getElem? hfk)).2
      obtain ⟨b, off, rfl, hb, c0, c1, c2⟩ := FP.at (FP.low HF.out (Low.keep0 HK.out)) hfk
      have hin : (0 : Int) ≤ (k : Int) ∧ (k : Int) < (fs.length : Int) := ⟨by omega, by omega⟩
      have hrd : fitRun fs vs = ((rs.take f.count.toNat).all (fitsB f.kind) && fitRun (fs.drop (k + 1)) (rs.drop f.count.toNat)) := by rw [HRUN.out, drop_next hfk]; rfl
      have hsd : m = f.count.toNat + sumN (fs.drop (k + 1)) := by rw [HMS.out, drop_next hfk]; rfl
      have HRD := hid hrd
      clear hfk hrd HRUN
      obtain ⟨nm, kd, ct⟩ := f
      obtain ⟨cn, rfl⟩ := Int.eq_ofNat_of_zero_le (a := ct) (by have := hof.1; simp only at this; omega)
      simp only [Int.toNat_natCast] at c0 c1 c2 hof hsd
      have HRD2 : Hid (fitRun fs vs = ((rs.take cn).all (fitsB kd) && fitRun (fs.drop (k + 1)) (rs.drop cn))) := hid HRD.out
      clear HRD
      have hcn : 1 ≤ cn ∧ cn ≤ 8 := ⟨by omega, by omega⟩
      have hcm : cn ≤ m := by omega
      have HSD := hid hsd
      clear hsd
      obtain ⟨x0, hx0⟩ : ∃ x, rs[0]? = some x := ⟨rs[0]'(by have := HMR.out; omega), by simp [show 0 < rs.length by have := HMR.out; omega]⟩
      obtain ⟨qb, qo, rfl, hqb, _⟩ := XP.at HXP.out hx0
      have hin0 : (0 : Int) ≤ (cn : Int) ∧ (cn : Int) ≤ (c' : Int) := ⟨by omega, by omega⟩
      have hin1 : (0 : Int) ≤ (cn : Int) ∧ (cn : Int) ≤ (m : Int) := ⟨by omega, by omega⟩
      have HK3 := hid (HK.out.alloc (.cells #[.string nm, .int .i64 kd, .int .i64 (cn : Int)] 41))
      have hfb := heap_alloc_new wr (.cells #[.string nm, .int .i64 kd, .int .i64 (cn : Int)] 41)
      have HFB := hid hfb
      clear hx0 hfb
      go_upto_region 9 with fail
      generalize wr.alloc (.cells #[.string nm, .int .i64 kd, .int .i64 (cn : Int)] 41) = wa at *
      generalize wr.heap.size = sb at *
      have d1 : wa.cell? ⟨sb, 2, none⟩ = some (.int .i64 (cn : Int)) := cell_of HFB.out (by rfl)
      clear c0 c1 c2
      go_wp2_with fail
      have HWA : Hid (∀ wy, Keep (fun _ => False) wa wy → wy.cell? ⟨sb, 1, none⟩ = some (.int .i64 kd) ∧ wy.cell? ⟨sb, 2, none⟩ = some (.int .i64 (cn : Int))) := hid (fun wy hk => ⟨cell_of (hk.get HFB.out (fun h => h)) (by rfl), cell_of (hk.get HFB.out (fun h => h)) (by rfl)⟩)
      clear d1
      go_loopw [9, 31] (fun _ i wy => ∃ j : Nat, j ≤ cn ∧ i = iV j ∧ Keep (fun _ => False) wa wy ∧ ∀ x ∈ rs.take j, fitsB kd x = true) (fun _ i _ => cn + 1 - (intOf i).toNat)
      case atStart => exact ⟨0, by omega, rfl, Keep.refl _ _, by simp⟩
      case round =>
        obtain ⟨j, hj, rfl, hky, hal⟩ := hrel
        have HKY := hid hky; have HAL := hid hal
        clear hky hal
        by_cases hjt : j < cn
        · obtain ⟨x, hx⟩ : ∃ x, rs[j]? = some x := ⟨rs[j]'(by have := HMR.out; omega), by simp [show j < rs.length by have := HMR.out; omega]⟩
          have hxf := HFR.out x (List.mem_of_getElem? hx)
          have HKW := hid (HK3.out.trans HKY.out)
          obtain ⟨b2, o2, e, hb2, a0, a1, a2⟩ := XP.at (XP.low HXP.out (Low.keep0 HKW.out)) hx
          injection e with e
          injection e with e1 e2
          subst e1; subst e2
          have hin2 : (0 : Int) ≤ (j : Int) ∧ (j : Int) < (cn : Int) := ⟨by omega, by omega⟩
          have HN : Hid (fitsB kd x = true → ∀ y ∈ rs.take (j + 1), fitsB kd y = true) := hid (fun h y hy => by
            rw [take_next hx] at hy
            rcases List.mem_append.1 hy with h2 | h2
            · exact HAL.out y h2
            · rw [List.mem_singleton.1 h2]; exact h)
          have HBAD : Hid (fitsB kd x = false → fitRun fs vs = false) := hid (fun h => by
            rw [HRD2.out]
            have hm : x ∈ rs.take cn := by rw [List.mem_take_iff_getElem]; obtain ⟨h1, h2⟩ := List.getElem?_eq_some_iff.1 hx; exact ⟨j, by omega, h2⟩
            have : (rs.take cn).all (fitsB kd) = false := by rw [List.all_eq_false]; exact ⟨x, hm, by rw [h]; simp⟩
            rw [this]; rfl)
          have hk4 := HKY.out.alloc (.cells (WC x) 57)
          have HK4 := hid hk4
          have hc4 := (HWA.out _ hk4).1
          have hxb := heap_alloc_new wr (.cells (WC x) 57)
          have HXB := hid hxb
          clear hx hk4 hxb
          go_upto_region 12 with fail
          generalize wr.alloc (.cells (WC x) 57) = wx at *
          generalize wr.heap.size = xb at *
          have e0 : wx.cell? ⟨xb, 0, none⟩ = some (.bool x.neg) := cell_of HXB.out (by rfl)
          have e1 : wx.cell? ⟨xb, 1, none⟩ = some (.int .u64 (x.hi : Int)) := cell_of HXB.out (by rfl)
          have e2 : wx.cell? ⟨xb, 2, none⟩ = some (.int .u64 (x.lo : Int)) := cell_of HXB.out (by rfl)
          go_wp2_with fail
          refine (f_fits kd x hxf _).mono ?_
          rintro r w5 ⟨rfl, hk5⟩
          have HK5 := hid (HK4.out.trans hk5)
          clear hk5 e0 e1 e2 a0 a1 a2 hc4
          cases hfx : fitsB kd x
          · have G : Hid (fitC fs vs = 3) := hid (by rw [HFC.out false (HBAD.out hfx)]; rfl)
            clear hfx
            go_wp2
            go_ret
            exact ⟨by rw [G.out]; rfl, HK3.out.trans HK5.out⟩
          · have G := hid (HN.out hfx)
            clear hfx
            go_wp2
            go_roundw
            case rel =>
              exact ⟨j + 1, by omega, by go_num, HK5.out, G.out⟩
            case measure => simp [intOf]; omega
        · obtain rfl : j = cn := by omega
          have hc5 := (HWA.out _ HKY.out).2
          have G : Hid (fitRun fs vs = fitRun (fs.drop (k + 1)) (rs.drop j)) := hid (by
            rw [HRD2.out]
            have : (rs.take j).all (fitsB kd) = true := by rw [List.all_eq_true]; exact HAL.out
            rw [this]; rfl)
          have hin3 : (0 : Int) ≤ (j : Int) ∧ (j : Int) ≤ (m : Int) := ⟨by omega, by omega⟩
          clear HAL HRD2
          go_wp2
          go_roundw
          case rel =>
            have hmr := HMR.out
            have hsd2 := HSD.out
            by_cases hcj : c' = j
            · rw [if_pos hcj]
              have hnil : rs.drop j = [] := List.drop_of_length_le (by omega)
              exact ⟨k + 1, m - j, _, c' - j, rs.drop j, by omega, by go_num, rfl, by omega, by rw [List.length_drop]; omega, by omega, by omega, fun x hx => HFR.out x (List.mem_of_mem_drop hx), .inl hnil, G.out, HK3.out.trans HKY.out⟩
            · rw [if_neg hcj]
              exact ⟨k + 1, m - j, _, c' - j, rs.drop j, by omega, by go_num, rfl, by omega, by rw [List.length_drop]; omega, by omega, by omega, fun x hx => HFR.out x (List.mem_of_mem_drop hx), HXP.out.drop j, G.out, HK3.out.trans HKY.out⟩
          case measure => simp [intOf]; omega
    · obtain rfl : k = fs.length := by omega
      have G : Hid (fitC fs vs = 0) := hid (by rw [HFC.out true (by rw [HRUN.out, List.drop_length]; rfl)]; rfl)
      go_wp2
      go_ret
      exact ⟨by rw [G.out]; rfl, HK.out⟩

end Go.Proofs.Ytkgkcnmnfhehfaa
