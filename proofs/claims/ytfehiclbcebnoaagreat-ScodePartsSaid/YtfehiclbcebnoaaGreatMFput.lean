/- What is proved: what Put of the field's layer answers: an element's bytes. -/
import Derived.Test.YtfehiclbcebnoaaGreatMLay
import Derived.Test.YtfehiclbcebnoaaGreatMWide2
import Derived.Test.YtfehiclbcebnoaaGreatMBox
import Derived.Test.YtfehiclbcebnoaaGreatMHeap
import Derived.Maps.Own
import Derived.Maps.OwnOps
import Derived.Maps.OwnSet
import Derived.Maps.Views
import Derived.Laws.BitsLemmas
import Derived.Lib.AppendStr
namespace Go.Proofs.YtfehiclbcebnoaaGreat
open Go.RowKit Go.Proofs.Heap Go.Proofs.Sch Go.Proofs.Wide

theorem results_tt' {fn : Func} {p u : Tmp} (h : fn.results = #[.tmp p, .tmp u]) (tmps : Array Value) {P : Program} {w : World} : (results fn tmps).run P w = .ok (.tuple #[tmps.getD p undef, tmps.getD u undef]) w := by
  unfold results
  rw [h]
  simp
/-- The word that stands for a number. -/
def wordN (x : WI) : Nat := if x.neg = true then (18446744073709551616 - x.lo) % 18446744073709551616 else x.lo
/-- An element's bytes. -/
def putL (k : Int) (x : WI) : List UInt8 := leL (szN k) (wordN x % 256 ^ szN k)
def putS (k : Int) (x : WI) : ByteArray := if fitsB k x = true then ⟨(putL k x).toArray⟩ else ⟨#[]⟩
/-- The error of an element. -/
def putE (k : Int) (x : WI) : Nat := if kindB k = false then 1 else if fitsB k x = false then 3 else 0
theorem wordN_lt {x : WI} (h : x.fit) : wordN x < 18446744073709551616 := by
  unfold wordN
  split
  · omega
  · exact h.2
theorem wrap_neg (n : Nat) (h : n < 18446744073709551616) : IntKind.u64.wrap (-(n : Int)) = (((18446744073709551616 - n) % 18446744073709551616 : Nat) : Int) := by
  have : IntKind.u64.wrap (-(n : Int)) = (-(n : Int)) % 18446744073709551616 := by simp [IntKind.wrap, IntKind.bits, IntKind.signed]
  omega
theorem size_cases {k : Int} (h1 : 1 ≤ k) (h2 : k ≤ 10) : sizeK k = 1 ∨ sizeK k = 2 ∨ sizeK k = 4 ∨ sizeK k = 8 := by
  unfold sizeK
  omega
theorem and_pow (n k : Nat) (hn : n < 18446744073709551616) (hk : k = 8 ∨ k = 16 ∨ k = 32 ∨ k = 64) : bits .and .u64 (n : Int) ((2 ^ k - 1 : Nat) : Int) = ((n % 2 ^ k : Nat) : Int) := by
  have h := bits_mask .u64 64 (by decide) wraps64 k (by omega) (n : Int) (by omega) (by omega)
  have e : ((2 : Int) ^ k - 1) = ((2 ^ k - 1 : Nat) : Int) := by
    rcases hk with rfl | rfl | rfl | rfl <;> rfl
  rw [← e, h]
  rcases hk with rfl | rfl | rfl | rfl <;> simp

set_option maxRecDepth 20000 in
set_option maxHeartbeats 8000000 in
theorem f_put (k : Int) (x : WI) (hx : x.fit) (w : World) : Calls Tryz.prog 50 #[.int .i64 k, WV x] w fun r w' => r = .returned (.tuple #[.string (putS k x), iV (putE k x)]) ∧ Keep (fun _ => False) w w' := by
  obtain ⟨w3, hw3, hb3, hs3, hk3⟩ := box1 w (WC x) 54
  have HK := hid hk3
  have HX := hid hx
  clear hs3 hk3 hx
  go_enter Tryz.func50, Tryz.ntmps50
  go_upto_block 0 with fail
  rw [← hw3]
  clear hw3
  generalize w.heap.size = sb at *
  have HW : Hid (∀ wy, Keep (fun _ => False) w3 wy → wy.cell? ⟨sb, 0, none⟩ = some (.bool x.neg) ∧ wy.cell? ⟨sb, 1, none⟩ = some (.int .u64 (x.hi : Int)) ∧ wy.cell? ⟨sb, 2, none⟩ = some (.int .u64 (x.lo : Int))) := hid (fun wy hk =>
    ⟨cell_of (hk.get hb3 id) (by rfl), cell_of (hk.get hb3 id) (by rfl), cell_of (hk.get hb3 id) (by rfl)⟩)
  clear hb3
  obtain ⟨s0, s1, s2⟩ := HW.out _ (Keep.refl _ w3)
  go_wp2_with fail
  refine (is_kind k _).mono ?_
  rintro r w_ ⟨rfl, rfl⟩
  cases hkd : kindB k
  · have G1 : Hid (putS k x = ⟨#[]⟩) := hid (by unfold putS fitsB; rw [hkd]; rfl)
    have G2 : Hid (putE k x = 1) := hid (by unfold putE; rw [hkd]; rfl)
    clear hkd
    go_wp2
    (try simp only [Exit.inBlock, Exit.then])
    refine bodyPost_ret (results_tt' rfl _) rfl ?_
    rw [G1.out, G2.out]
    exact ⟨rfl, HK.out⟩
  go_wp2_with fail
  refine (f_fits k x HX.out _).mono ?_
  rintro r w4 ⟨rfl, hk4⟩
  have HK4 := hid hk4
  clear hk4 s0 s1 s2
  cases hft : fitsB k x
  · have G1 : Hid (putS k x = ⟨#[]⟩) := hid (by unfold putS; rw [hft]; rfl)
    have G2 : Hid (putE k x = 3) := hid (by unfold putE; rw [hkd, hft]; rfl)
    clear hkd hft
    go_wp2
    (try simp only [Exit.inBlock, Exit.then])
    refine bodyPost_ret (results_tt' rfl _) rfl ?_
    rw [G1.out, G2.out]
    exact ⟨rfl, HK.out.trans HK4.out⟩
  have G1 : Hid (putS k x = ⟨(putL k x).toArray⟩) := hid (by unfold putS; rw [hft]; rfl)
  have G2 : Hid (putE k x = 0) := hid (by unfold putE; rw [hkd, hft]; rfl)
  have hk10 : 1 ≤ k ∧ k ≤ 10 := of_decide_eq_true hkd
  have HSZ := hid (size_cases hk10.1 hk10.2)
  have HN := hid (wordN_lt HX.out)
  have hlo : x.lo < 18446744073709551616 := HX.out.2
  clear hkd hft hk10
  obtain ⟨s0, s1, s2⟩ := HW.out _ HK4.out
  go_upto_if 20 with fail
  go_cut [6] from 20 to 23 (fun v wx => v = .int .u64 (wordN x : Int) ∧ w4 = wx)
  case first =>
    obtain ⟨ng, hi, lo⟩ := x
    simp only at s0 s1 s2 hlo
    cases ng
    · go_wp2
      go_meet
      case rel => exact ⟨rfl, rfl⟩
    · have hwr := wrap_neg lo hlo
      go_wp2
      go_meet
      case rel => exact ⟨by first | rfl | (rw [show wordN ⟨true, hi, lo⟩ = (18446744073709551616 - lo) % 18446744073709551616 from rfl, ← hwr]), rfl⟩
  case rest =>
  obtain ⟨rfl, rfl⟩ := hcut
  clear s0 s1 s2
  have HQ := hid (wordN_lt HX.out)
  have HPL : Hid (putL k x = leL (szN k) (wordN x % 256 ^ szN k)) := hid rfl
  have HSC := hid (sz_cast k)
  generalize wordN x = n at *
  obtain ⟨w5, hw5, hb5, hs5, hk5⟩ := box1 w4 #[.slice none 0 0] 61
  have HK5 := hid (HK4.out.trans hk5)
  have HWS : Hid (WrS w5 w4.heap.size w4.heap.size (.slice none 0 0) []) := hid ⟨hb5, World.ownsRow_nil _ _ _ _, by simp [Value.ownBlock], Nat.le_refl _⟩
  have HB45 := hid hk5.size
  clear hb5 hs5 hk5
  go_upto_region 9 with fail
  rw [← hw5]
  clear hw5
  generalize hq : w4.heap.size = q at *
  have HQ4 := hid hq
  clear hq
  go_wp2_with fail
  refine (size_of k _).mono ?_
  rintro r w6 ⟨rfl, hk6⟩
  have HK6 := hid (HK5.out.trans hk6)
  have HWS6 : Hid (WrS w6 q q (.slice none 0 0) []) := hid ⟨hk6.get HWS.out.block id, World.ownsRow_nil _ _ _ _, HWS.out.ne, Nat.le_refl _⟩
  clear hk6
  rw [HSC.out]
  go_wp2_with fail
  refine (size_of k _).mono ?_
  rintro r w7 ⟨rfl, hk7⟩
  have HK7 := hid (HK6.out.trans hk7)
  have HWS7 : Hid (WrS w7 q q (.slice none 0 0) []) := hid ⟨hk7.get HWS6.out.block id, World.ownsRow_nil _ _ _ _, HWS.out.ne, Nat.le_refl _⟩
  clear hk7
  have hsz := HSZ.out
  rw [HSC.out] at hsz ⊢
  generalize szN k = z at *
  by_cases h1 : z = 1
  · obtain rfl : z = 1 := by omega
    clear hsz
    go_wp2_with fail
    refine (f_power 8 (by omega) _).mono ?_
    rintro r w_ ⟨rfl, rfl⟩
    obtain ⟨nm, hnm⟩ : ∃ nm, n % 256 = nm := ⟨_, rfl⟩
    have hnl : nm < 256 := by rw [← hnm]; exact Nat.mod_lt _ (by decide)
    have hand : bits .and .u64 (n : Int) 255 = (nm : Int) := by rw [← hnm]; exact and_pow n 8 HQ.out (by omega)
    have HPM : Hid (putL k x = leL 1 nm) := hid (by rw [HPL.out, ← hnm])
    clear hnm
    go_wp2_with fail
    clear hand
    have hnum := oct_num1 nm hnl q q (.slice none 0 0) [] w7 (by simp) HWS7.out
    refine hnum.mono ?_
    clear hnum
    rintro r w8 ⟨sv, rfl, hwn⟩
    have HWN := hid hwn
    have HK8 : Hid (Keep (fun _ => False) w3 w8) := hid (keep_new HK7.out hwn.keep (fun g hg => by
      rcases hg with rfl | hg
      · have := HK4.out.size; have := HQ4.out; omega
      · cases hg))
    clear hwn
    go_wp2_with fail
    refine (wr_string q q sv _ _ HWN.out.st).mono ?_
    rintro r w9 ⟨rfl, rfl⟩
    go_wp2
    (try simp only [Exit.inBlock, Exit.then])
    refine bodyPost_ret (results_tt' rfl _) rfl ?_
    rw [G1.out, G2.out, HPM.out]
    exact ⟨rfl, HK.out.trans HK8.out⟩
  by_cases h2 : z = 2
  · obtain rfl : z = 2 := by omega
    clear hsz
    go_wp2_with fail
    refine (f_power 16 (by omega) _).mono ?_
    rintro r w_ ⟨rfl, rfl⟩
    obtain ⟨nm, hnm⟩ : ∃ nm, n % 65536 = nm := ⟨_, rfl⟩
    have hnl : nm < 65536 := by rw [← hnm]; exact Nat.mod_lt _ (by decide)
    have hand : bits .and .u64 (n : Int) 65535 = (nm : Int) := by rw [← hnm]; exact and_pow n 16 HQ.out (by omega)
    have HPM : Hid (putL k x = leL 2 nm) := hid (by rw [HPL.out, ← hnm])
    clear hnm
    go_wp2_with fail
    clear hand
    have hnum := oct_num2 nm hnl q q (.slice none 0 0) [] w7 (by simp) HWS7.out
    refine hnum.mono ?_
    clear hnum
    rintro r w8 ⟨sv, rfl, hwn⟩
    have HWN := hid hwn
    have HK8 : Hid (Keep (fun _ => False) w3 w8) := hid (keep_new HK7.out hwn.keep (fun g hg => by
      rcases hg with rfl | hg
      · have := HK4.out.size; have := HQ4.out; omega
      · cases hg))
    clear hwn
    go_wp2_with fail
    refine (wr_string q q sv _ _ HWN.out.st).mono ?_
    rintro r w9 ⟨rfl, rfl⟩
    go_wp2
    (try simp only [Exit.inBlock, Exit.then])
    refine bodyPost_ret (results_tt' rfl _) rfl ?_
    rw [G1.out, G2.out, HPM.out]
    exact ⟨rfl, HK.out.trans HK8.out⟩
  by_cases h4 : z = 4
  · obtain rfl : z = 4 := by omega
    clear hsz
    go_wp2_with fail
    refine (f_power 32 (by omega) _).mono ?_
    rintro r w_ ⟨rfl, rfl⟩
    obtain ⟨nm, hnm⟩ : ∃ nm, n % 4294967296 = nm := ⟨_, rfl⟩
    have hnl : nm < 4294967296 := by rw [← hnm]; exact Nat.mod_lt _ (by decide)
    have hand : bits .and .u64 (n : Int) 4294967295 = (nm : Int) := by rw [← hnm]; exact and_pow n 32 HQ.out (by omega)
    have HPM : Hid (putL k x = leL 4 nm) := hid (by rw [HPL.out, ← hnm])
    clear hnm
    go_wp2_with fail
    clear hand
    have hnum := oct_num4 nm hnl q q (.slice none 0 0) [] w7 (by simp) HWS7.out
    refine hnum.mono ?_
    clear hnum
    rintro r w8 ⟨sv, rfl, hwn⟩
    have HWN := hid hwn
    have HK8 : Hid (Keep (fun _ => False) w3 w8) := hid (keep_new HK7.out hwn.keep (fun g hg => by
      rcases hg with rfl | hg
      · have := HK4.out.size; have := HQ4.out; omega
      · cases hg))
    clear hwn
    go_wp2_with fail
    refine (wr_string q q sv _ _ HWN.out.st).mono ?_
    rintro r w9 ⟨rfl, rfl⟩
    go_wp2
    (try simp only [Exit.inBlock, Exit.then])
    refine bodyPost_ret (results_tt' rfl _) rfl ?_
    rw [G1.out, G2.out, HPM.out]
    exact ⟨rfl, HK.out.trans HK8.out⟩
  obtain rfl : z = 8 := by omega
  clear hsz
  go_wp2_with fail
  refine (f_power 64 (by omega) _).mono ?_
  rintro r w_ ⟨rfl, rfl⟩
  obtain ⟨nm, hnm⟩ : ∃ nm, n % 18446744073709551616 = nm := ⟨_, rfl⟩
  have hnl : nm < 18446744073709551616 := by rw [← hnm]; exact Nat.mod_lt _ (by decide)
  have hand : bits .and .u64 (n : Int) 18446744073709551615 = (nm : Int) := by rw [← hnm]; exact and_pow n 64 HQ.out (by omega)
  have HPM : Hid (putL k x = leL 8 nm) := hid (by rw [HPL.out, ← hnm])
  clear hnm
  go_wp2_with fail
  clear hand
  have hnum := oct_num8 nm hnl q q (.slice none 0 0) [] w7 (by simp) HWS7.out
  refine hnum.mono ?_
  clear hnum
  rintro r w8 ⟨sv, rfl, hwn⟩
  have HWN := hid hwn
  have HK8 : Hid (Keep (fun _ => False) w3 w8) := hid (keep_new HK7.out hwn.keep (fun g hg => by
    rcases hg with rfl | hg
    · have := HK4.out.size; have := HQ4.out; omega
    · cases hg))
  clear hwn
  go_wp2_with fail
  refine (wr_string q q sv _ _ HWN.out.st).mono ?_
  rintro r w9 ⟨rfl, rfl⟩
  go_wp2
  (try simp only [Exit.inBlock, Exit.then])
  refine bodyPost_ret (results_tt' rfl _) rfl ?_
  rw [G1.out, G2.out, HPM.out]
  exact ⟨rfl, HK.out.trans HK8.out⟩
end Go.Proofs.YtfehiclbcebnoaaGreat

namespace Go.Proofs.TMap
open Go.RowKit Go.Proofs.Heap Go.WideMaps

/-- Block b is a map of at most n entries, true just where f is. -/
def TM (P : Program) (tK tE : TypeId) (w : World) (b n : Nat) (f : List UInt8 → Bool) : Prop :=
  ∃ D : DataW Unit, w.ownsMap P tK (plainElem P tE) b n D ∧ Maps.IsMap D ∧ ∀ l, D.atKey (.string l) (.lit (.bool false)) = .lit (.bool (f l))

section
variable {P : Program} {tK tE : TypeId} {w : World} {b n : Nat} {f : List UInt8 → Bool}

theorem TM.made (w : World) : TM P tK tE (w.alloc (.map #[] 0)) w.heap.size 0 (fun _ => false) :=
  ⟨_, World.ownsMap_made w P tK _, ⟨_, rfl⟩, fun _ => rfl⟩
theorem TM.lt (h : TM P tK tE w b n f) : b < w.heap.size := by obtain ⟨D, h1, _⟩ := h; exact h1.lt
theorem TM.keep {w' : World} (h : TM P tK tE w b n f) (hk : w'.heap[b]? = w.heap[b]?) : TM P tK tE w' b n f := by
  obtain ⟨D, ⟨es, clock, h1, h2⟩, h3⟩ := h
  exact ⟨D, ⟨es, clock, hk.trans h1, h2⟩, h3⟩

/-- 'm[s]'. -/
theorem TM.look {t : TypeId} (h : TM P tK tE w b n f) (hk : P.underlying tK = some .string) (ht : P.underlying t = some (.map tK tE)) (he : P.underlying tE = some .bool) (hz : (zeroValue tE).run P w = .ok (.bool false) w) (s : ByteArray) (hs : s.size ≤ maxLen) :
    (Instr.lookup t (.map (some b)) (.string s) false).run P w = .ok (.bool (f s.data.toList)) w := by
  obtain ⟨D, h1, h2, h3⟩ := h
  obtain ⟨v, ps, hrun, hv⟩ := h1.lookup (Maps.string_keyed hk) ht hz (plainElem_bool he false) (keyOf_string_mk hk hs)
  rw [h3] at hv
  rw [hrun]
  cases v <;> simp [plainElem, he] at hv
  · rw [hv.1]

/-- 'm[s] = true', at the operation. -/
theorem wpList_tm_put {ops : Array Oper} {rest : List Oper} {o : Oper} {a : Act} {Q : Exit → Act → World → Prop} (hg : o.guard = none) (m x v : Operand) (t : TypeId) (hop : o.op = Op.mapUpdate t m x v)
    (hk : P.underlying tK = some .string) (ht : P.underlying t = some (.map tK tE)) (he : P.underlying tE = some .bool)
    (h : TM P tK tE w b n f) (hn : n < maxLen) (hm : a.eval m = .map (some b)) (s : ByteArray) (hs : s.size ≤ maxLen) (hx : a.eval x = .string s) (hv : a.eval v = .bool true)
    (hK : ∀ w', TM P tK tE w' b (n + 1) (fun l => decide (l = s.data.toList) || f l) → w.grownBy w' (some b) → wpList P ops Q rest (a.put o.dst undef) w') : wpList P ops Q (o :: rest) a w := by
  obtain ⟨D, h1, h2, h3⟩ := h
  refine wpList_mapUpdate_own w hg m x v t hop tK tE (Maps.string_keyed hk) ht _ b n D hm h1 hn _ _ _ hx hv (keyOf_string_mk hk hs) _ [] (plainElem_bool he true) ?_
  intro w' g1 g2
  refine hK w' ⟨_, g1, ?_, fun l => ?_⟩ g2
  · obtain ⟨es, rfl⟩ := h2; exact ⟨_, rfl⟩
  · by_cases hl : l = s.data.toList
    · rw [hl, Maps.atKey_put_same h2 (by trivial)]; simp
    · rw [Maps.atKey_put_other (fun e => hl (by injection e)), h3]; simp [hl]
end
end Go.Proofs.TMap

namespace Go.Proofs.YtfehiclbcebnoaaGreat
open Go.RowKit Go.Proofs.Heap Go.Proofs.Sch Go.Proofs.TMap

/-- Whether a text is in a list. -/
def memB (s : ByteArray) (ns : List ByteArray) : Bool := ns.any (fun m => decide (s = m))
/-- Whether names stop a check: one isn't a name, or was there. -/
def fldBad : List ByteArray → List Fld → Bool
  | _, [] => false
  | seen, f :: r => !nameB f.name || (memB f.name seen || fldBad (seen ++ [f.name]) r)
/-- The error of fields with their names. -/
def fieldsC (fs : List Fld) : Nat := if fldBad [] fs = true then 4 else layC fs

def seenF (ns : List ByteArray) : List UInt8 → Bool := fun l => ns.any (fun m => decide (l = m.data.toList))
theorem seenF_mem (ns : List ByteArray) (s : ByteArray) : seenF ns s.data.toList = memB s ns := by
  have h : ∀ m : ByteArray, (s.data.toList = m.data.toList) ↔ s = m := fun m => ⟨fun e => by cases s; cases m; simp at e; simp [e], fun e => e ▸ rfl⟩
  unfold seenF memB
  congr 1
  funext m
  simp only [h m]
theorem seenF_put (ns : List ByteArray) (s : ByteArray) : (fun l => decide (l = s.data.toList) || seenF ns l) = seenF (ns ++ [s]) := by
  funext l
  unfold seenF
  rw [List.any_append]
  simp [Bool.or_comm]
theorem drop_next {α : Type} {l : List α} {k : Nat} {x : α} (h : l[k]? = some x) : l.drop k = x :: l.drop (k + 1) := by
  obtain ⟨hk, rfl⟩ := List.getElem?_eq_some_iff.1 h
  exact List.drop_eq_getElem_cons hk
theorem nameB_size {s : ByteArray} (h : nameB s = true) : s.size ≤ 12 := (of_decide_eq_true h).2.1
theorem zero_bool (w : World) : (zeroValue 4).run Tryz.prog w = .ok (.bool false) w := by kernel_rfl

abbrev TS := TM Tryz.prog 9 4

set_option maxRecDepth 20000 in
set_option maxHeartbeats 2000000 in
theorem sch_fields (fs : List Fld) (p : Option Addr) (cap : Nat) (w : World) (hl : fs.length ≤ 4398046511104) (hf : FP w w.heap.size p fs) :
    Calls Tryz.prog 55 #[.slice p fs.length cap] w fun r w' => r = .returned (iV (fieldsC fs)) ∧ Keep (fun _ => False) w w' := by
  have HF := hid hf
  have HM0 : Hid (TS (w.alloc (.map #[] 0)) w.heap.size 0 (seenF [])) := hid (TM.made w)
  have HK0 := hid ((Keep.refl (fun _ => False) w).alloc (.map #[] 0))
  clear hf
  have hmm := @run_makeMap Tryz.prog
  go_enter Tryz.func55, Tryz.ntmps55
  go_wp2_with fail
  clear hmm
  go_loopw [5, 9] (fun _ i wr => ∃ k : Nat, k ≤ fs.length ∧ i = iV k ∧ Keep (fun _ => False) w wr ∧ TS wr w.heap.size k (seenF ((fs.take k).map (·.name))) ∧ fldBad [] fs = fldBad ((fs.take k).map (·.name)) (fs.drop k)) (fun _ i _ => fs.length + 1 - (intOf i).toNat)
  case atStart => exact ⟨0, by omega, rfl, HK0.out, HM0.out, rfl⟩
  case round =>
    clear HM0 HK0
    obtain ⟨k, hk, rfl, hkeep, hm, hbad⟩ := hrel
    have HK := hid hkeep; have HM := hid hm; have HB := hid hbad
    clear hkeep hm hbad
    by_cases hlt : k < fs.length
    · obtain ⟨f, hfk⟩ : ∃ f, fs[k]? = some f := ⟨fs[k], by simp [hlt]⟩
      have hfp := FP.low HF.out (Low.of_keep HK.out (Nat.le_refl _) (fun _ h => h.elim))
      obtain ⟨b, off, rfl, hb, c0, c1, c2⟩ := FP.at hfp hfk
      have hin : (0 : Int) ≤ (k : Int) ∧ (k : Int) < (fs.length : Int) := ⟨by omega, by omega⟩
      have htk : (fs.take (k + 1)).map (·.name) = (fs.take k).map (·.name) ++ [f.name] := by rw [take_next hfk, List.map_append]; rfl
      have hbd : fldBad [] fs = (!nameB f.name || (memB f.name ((fs.take k).map (·.name)) || fldBad ((fs.take (k + 1)).map (·.name)) (fs.drop (k + 1)))) := by
        rw [HB.out, drop_next hfk, htk]; rfl
      have HTK := hid htk; have HBD := hid hbd
      clear hfk hfp htk hbd HB
      generalize (fs.take k).map (·.name) = ns at *
      obtain ⟨nm, kd, ct⟩ := f
      simp only at c0 c1 c2
      have hfb := heap_alloc_new wr (.cells #[.string nm, .int .i64 kd, .int .i64 ct] 45)
      have hkb := HK.out.alloc (.cells #[.string nm, .int .i64 kd, .int .i64 ct] 45)
      have hmb := HM.out.keep (((Keep.refl (fun _ => False) wr).alloc (.cells #[.string nm, .int .i64 kd, .int .i64 ct] 45)).block w.heap.size HM.out.lt id)
      have HFB := hid hfb; have HKB := hid hkb; have HMB := hid hmb
      clear hfb hkb hmb HK HM
      go_wp2_with fail
      generalize wr.alloc (.cells #[.string nm, .int .i64 kd, .int .i64 ct] 45) = wa at *
      generalize wr.heap.size = q at *
      refine (is_name nm _).mono ?_
      rintro r w' ⟨rfl, rfl⟩
      cases hn : nameB nm
      · have G3 : Hid (fieldsC fs = 4) := hid (by unfold fieldsC; rw [HBD.out]; simp only [hn]; rfl)
        clear HBD HTK hn
        go_wp2
        go_ret
        exact ⟨by rw [G3.out]; rfl, HKB.out⟩
      have hg0 : wa.cell? ⟨q, 0, none⟩ = some (.string nm) := cell_of HFB.out (by rfl)
      have hlk := HMB.out.look (t := 112) Tryz.underlying9 Tryz.underlying112 Tryz.underlying4 (zero_bool _) nm (by have := nameB_size hn; unfold maxLen; omega)
      rw [seenF_mem] at hlk
      cases hs : memB nm ns
      rotate_left
      · have G3 : Hid (fieldsC fs = 4) := hid (by unfold fieldsC; rw [HBD.out]; simp only [hn, hs]; rfl)
        rw [hs] at hlk
        clear HBD HTK hn hs
        go_wp2
        go_ret
        exact ⟨by rw [G3.out]; rfl, HKB.out⟩
      rw [hs] at hlk
      have HN := hid hn
      have HB2 : Hid (fldBad [] fs = fldBad ((fs.take (k + 1)).map (·.name)) (fs.drop (k + 1))) := hid (by rw [HBD.out]; simp only [hn, hs]; rfl)
      clear HBD hn hs
      go_wp2_with (at_mapUpdate; go_loud (refine wpList_tm_put rfl _ _ _ _ rfl Tryz.underlying9 Tryz.underlying112 Tryz.underlying4 HMB.out (by unfold maxLen; omega) (by rfl) nm (by have := nameB_size HN.out; unfold maxLen; omega) (by rfl) (by rfl) ?_; intro w5 hm5 hg5; rw [seenF_put, ← HTK.out] at hm5; have HM5 := hid hm5; have HK5 := hid (keep_new HKB.out ((Keep.refl (fun k => some w.heap.size = some k) wa).grown hg5 (fun k hk => .inr hk)) (fun k e => by injection e with e; omega)); clear hm5 hg5))
      go_roundw
      case rel => exact ⟨k + 1, by omega, by go_num, HK5.out, HM5.out, HB2.out⟩
      case measure => simp [intOf]; omega
    · obtain rfl : k = fs.length := by omega
      have hbd : fieldsC fs = layC fs := by
        unfold fieldsC
        rw [HB.out, List.drop_length]
        rfl
      have hfp := FP.low HF.out (Low.of_keep HK.out (Nat.le_refl _) (fun _ h => h.elim))
      have HLC := hid (fun cap => layout_check fs p cap wr (FP.mono hfp HK.out.size))
      have HBD := hid hbd
      clear hfp hbd
      go_wp2_with fail
      refine (HLC.out _).mono ?_
      rintro r w1 ⟨rfl, hk1⟩
      have HK1 := hid (HK.out.trans hk1)
      clear hk1
      go_wp2
      go_ret
      exact ⟨by rw [HBD.out]; rfl, HK1.out⟩

end Go.Proofs.YtfehiclbcebnoaaGreat

namespace Go.Proofs.YtfehiclbcebnoaaGreat
open Go.RowKit Go.Proofs.Heap Go.Proofs.Sch Go.Proofs.Wide

/-- A reader in block b: the bytes that are left, and whether it is bad. -/
def RdS (w : World) (b : Nat) (s : ByteArray) (bad : Bool) : Prop := w.heap[b]? = some (.cells #[.string s, .bool bad] 115 (0, 0))
theorem RdS.keep0 {w w' : World} {b : Nat} {s : ByteArray} {bad : Bool} (h : RdS w b s bad) (hk : Keep (fun _ => False) w w') : RdS w' b s bad := hk.get h id

theorem rd_read (s : ByteArray) (w : World) : Calls Tryz.prog 26 #[.string s] w fun r w' => r = .returned (.pointer (some ⟨w.heap.size, 0, none⟩)) ∧ RdS w' w.heap.size s false ∧ Keep (fun _ => False) w w' := by
  go_enter Tryz.func26, Tryz.ntmps26
  go_wp2
  go_ret
  exact ⟨rfl, heap_alloc_new w _, (Keep.refl _ w).alloc _⟩
theorem rd_bad (b : Nat) (s : ByteArray) (bad : Bool) (w : World) (h : RdS w b s bad) : Calls Tryz.prog 34 #[.pointer (some ⟨b, 0, none⟩)] w fun r w' => r = .returned (.bool bad) ∧ w = w' := by
  have c1 : w.cell? ⟨b, 1, none⟩ = some (.bool bad) := cell_of h (by rfl)
  clear h
  go_enter Tryz.func34, Tryz.ntmps34
  cases bad
  all_goals
    go_wp2
    go_ret
    exact ⟨rfl, rfl⟩
theorem rd_left (b : Nat) (s : ByteArray) (bad : Bool) (w : World) (h : RdS w b s bad) : Calls Tryz.prog 86 #[.pointer (some ⟨b, 0, none⟩)] w fun r w' => r = .returned (iV (if bad = true then 0 else s.size)) ∧ w = w' := by
  have c0 : w.cell? ⟨b, 0, none⟩ = some (.string s) := cell_of h (by rfl)
  have H := hid h
  clear h
  go_enter Tryz.func86, Tryz.ntmps86
  go_wp2_with fail
  refine (rd_bad b s bad _ H.out).mono ?_
  rintro r w' ⟨rfl, rfl⟩
  cases bad
  all_goals
    go_wp2
    go_ret
    exact ⟨rfl, rfl⟩
theorem rd_done (b : Nat) (s : ByteArray) (bad : Bool) (w : World) (h : RdS w b s bad) : Calls Tryz.prog 29 #[.pointer (some ⟨b, 0, none⟩)] w fun r w' => r = .returned (.bool (!bad && decide (s.size = 0))) ∧ w = w' := by
  have c0 : w.cell? ⟨b, 0, none⟩ = some (.string s) := cell_of h (by rfl)
  have H := hid h
  clear h
  go_enter Tryz.func29, Tryz.ntmps29
  go_wp2_with fail
  refine (rd_bad b s bad _ H.out).mono ?_
  rintro r w' ⟨rfl, rfl⟩
  cases bad
  · by_cases hz : s.size = 0
    · have e1 : s.toList.isEmpty = true := empty_yes hz
      have G : Hid ((!false && decide (s.size = 0)) = true) := hid (by rw [decide_eq_true hz]; rfl)
      clear hz
      go_wp2
      go_ret
      exact ⟨by rw [G.out]; rfl, rfl⟩
    · have e1 : s.toList.isEmpty = false := empty_no hz
      have G : Hid ((!false && decide (s.size = 0)) = false) := hid (by rw [decide_eq_false hz]; rfl)
      clear hz
      go_wp2
      go_ret
      exact ⟨by rw [G.out]; rfl, rfl⟩
  · go_wp2
    go_ret
    exact ⟨rfl, rfl⟩
/-- The number that bytes are, little end first. -/
def leN : List UInt8 → Nat
  | [] => 0
  | b :: r => b.toNat + 256 * leN r
theorem leN_lt : ∀ l : List UInt8, leN l < 256 ^ l.length
  | [] => by decide
  | b :: r => by
    have := leN_lt r
    have hb : b.toNat < 256 := b.toNat_lt
    rw [leN, List.length_cons, Nat.pow_succ]
    omega
theorem leL_leN : ∀ (l : List UInt8), leL l.length (leN l) = l
  | [] => rfl
  | b :: r => by
    have hb : b.toNat < 256 := b.toNat_lt
    rw [List.length_cons, leL, leN]
    have h1 : (b.toNat + 256 * leN r) / 256 = leN r := by omega
    have h2 : UInt8.ofNat (b.toNat + 256 * leN r) = b := by
      apply UInt8.toNat.inj
      rw [UInt8.toNat_ofNat']
      omega
    rw [h1, h2, leL_leN r]
theorem leN_leL : ∀ (k m : Nat), leN (leL k m) = m % 256 ^ k
  | 0, m => by simp [leL, leN, Nat.mod_one]
  | k + 1, m => by
    have h : 256 ^ (k + 1) = 256 * 256 ^ k := by rw [Nat.pow_succ, Nat.mul_comm]
    rw [leL, leN, leN_leL k (m / 256), UInt8.toNat_ofNat', h, Nat.mod_mul]
/-- The first bytes' number. -/
def firstN (s : ByteArray) (wd : Nat) : Nat := leN (s.data.toList.take wd)
theorem wide_le {wd : Nat} (h : WideOk wd) : 1 ≤ wd ∧ wd ≤ 8 := by unfold WideOk at h; omega
theorem pow_le {a b : Nat} (h : a ≤ b) : 256 ^ a ≤ 256 ^ b := Nat.pow_le_pow_right (by decide) h
theorem firstN_lt (s : ByteArray) (wd : Nat) : firstN s wd < 256 ^ wd := by
  have h1 := leN_lt (s.data.toList.take wd)
  have h2 : 256 ^ (s.data.toList.take wd).length ≤ 256 ^ wd := pow_le (by rw [List.length_take]; omega)
  unfold firstN; omega

set_option maxRecDepth 20000 in
set_option maxHeartbeats 8000000 in
theorem rd_see (b : Nat) (s : ByteArray) (bad : Bool) (wd : Nat) (hwd : WideOk wd) (w : World) (h : RdS w b s bad) :
    Calls Tryz.prog 56 #[.pointer (some ⟨b, 0, none⟩), .int .i64 (wd : Int)] w fun r w' => r = .returned (if bad = false ∧ wd ≤ s.size then .tuple #[.int .u64 (firstN s wd : Int), .bool true] else .tuple #[.int .u64 0, .bool false]) ∧ w = w' := by
  have c0 : w.cell? ⟨b, 0, none⟩ = some (.string s) := cell_of h (by rfl)
  have H := hid h
  have HWD := hid (wide_le hwd)
  have HW := hid hwd
  have hw8 := (wide_le hwd).2
  clear h hwd
  have HP : Hid (∀ X : Value, (if bad = false ∧ wd ≤ s.size then .tuple #[.int .u64 (firstN s wd : Int), .bool true] else .tuple #[.int .u64 0, .bool false]) = X → X = (if bad = false ∧ wd ≤ s.size then .tuple #[.int .u64 (firstN s wd : Int), .bool true] else .tuple #[.int .u64 0, .bool false])) := hid (fun X h => h.symm)
  generalize hR : (if bad = false ∧ wd ≤ s.size then Value.tuple #[.int .u64 (firstN s wd : Int), .bool true] else .tuple #[.int .u64 0, .bool false]) = R at *
  have HR := hid hR
  clear HP hR
  go_enter Tryz.func56, Tryz.ntmps56
  go_wp2_with fail
  refine (oct_wide wd HW.out _).mono ?_
  rintro r w1 ⟨rfl, rfl⟩
  go_wp2_with fail
  refine (rd_left b s bad _ H.out).mono ?_
  rintro r w1 ⟨rfl, rfl⟩
  by_cases hg : bad = false ∧ wd ≤ s.size
  rotate_left
  · obtain ⟨z, hz⟩ : ∃ z, (if bad = true then 0 else s.size) = z := ⟨_, rfl⟩
    have hzw : z < wd := by
      rw [← hz]
      have := HWD.out
      cases bad
      · simp at hg ⊢; omega
      · simp; omega
    rw [hz]
    have g1 : decide ((z : Int) < (wd : Int)) = true := decide_eq_true (by omega)
    have g2 : decide (z < wd) = true := decide_eq_true hzw
    have HE : Hid (R = .tuple #[.int .u64 0, .bool false]) := hid (by rw [← HR.out, if_neg hg])
    clear hz hg
    go_wp2
    (try simp only [Exit.inBlock, Exit.then])
    refine bodyPost_ret (results_tt' rfl _) rfl ?_
    exact ⟨by rw [HE.out]; rfl, rfl⟩
  obtain ⟨rfl, hle⟩ := hg
  have HE : Hid (R = .tuple #[.int .u64 (firstN s wd : Int), .bool true]) := hid (by rw [← HR.out, if_pos ⟨rfl, hle⟩])
  have g1 : decide ((s.size : Int) < (wd : Int)) = false := decide_eq_false (by omega)
  have g2 : decide (s.size < wd) = false := decide_eq_false (by omega)
  simp only [Bool.false_eq_true, if_false]
  go_wp2_with fail
  clear g1 g2
  go_loopw [6, 7] (fun n i wr => ∃ k : Nat, k ≤ wd ∧ i = .int .i64 ((k : Int) - 1) ∧ n = .int .u64 (leN ((s.data.toList.take wd).drop k) : Int) ∧ w = wr) (fun _ i _ => ((intOf i) + 1).toNat)
  case atStart => exact ⟨wd, Nat.le_refl _, rfl, by rw [List.drop_of_length_le (by rw [List.length_take]; omega)]; rfl, rfl⟩
  case round =>
    obtain ⟨k, hk, rfl, rfl, rfl⟩ := hrel
    by_cases hk0 : k = 0
    · subst hk0
      have g1 : decide ((0 : Int) ≤ ((0 : Nat) : Int) - 1) = false := by decide
      go_wp2
      (try simp only [Exit.inBlock, Exit.then])
      refine bodyPost_ret (results_tt' rfl _) rfl ?_
      exact ⟨by rw [HE.out]; rfl, rfl⟩
    · obtain ⟨j, rfl⟩ : ∃ j, k = j + 1 := ⟨k - 1, by omega⟩
      have e1 : (((j + 1 : Nat) : Int) - 1) = (j : Int) := by omega
      rw [e1]
      have hjs : j < s.size := by omega
      have g1 : decide ((0 : Int) ≤ (j : Int)) = true := decide_eq_true (by omega)
      have hlm : leN ((s.data.toList.take wd).drop (j + 1)) < 72057594037927936 := by
        have h1 := leN_lt ((s.data.toList.take wd).drop (j + 1))
        have h2 : ((s.data.toList.take wd).drop (j + 1)).length ≤ 7 := by rw [List.length_drop, List.length_take]; omega
        have h3 := pow_le h2
        exact Nat.lt_of_lt_of_le h1 h3
      have hst : leN ((s.data.toList.take wd).drop j) = (s[j]'hjs).toNat + 256 * leN ((s.data.toList.take wd).drop (j + 1)) := by
        have h1 : (s.data.toList.take wd)[j]? = some (s[j]'hjs) := by
          rw [List.getElem?_take_of_lt (by omega), Array.getElem?_toList]
          exact Array.getElem?_eq_getElem hjs
        rw [drop_next h1, leN]
      obtain ⟨bt, hbt⟩ : ∃ bt, (s[j]'hjs).toNat = bt := ⟨_, rfl⟩
      have hb256 : bt < 256 := by rw [← hbt]; exact (s[j]'hjs).toNat_lt
      rw [hbt] at hst
      have HST := hid hst
      clear hst
      generalize leN ((s.data.toList.take wd).drop (j + 1)) = m at *
      have hor : bits .or .u64 ((m : Int) * 256) (bt : Int) = ((m * 256 + bt : Nat) : Int) := by
        rw [bits_join .u64 64 (by decide) wraps64 8 _ _ (by omega) (by omega) (by omega) (by omega) (by omega) (by omega)]
        omega
      have hwb : IntKind.u64.wrap (bt : Int) = (bt : Int) := wraps64 _ (by omega) (by omega)
      have hin : (0 : Int) ≤ (j : Int) ∧ (j : Int) < (s.size : Int) := ⟨by omega, by omega⟩
      obtain ⟨mm, hmm⟩ : ∃ mm, m * 256 + bt = mm := ⟨_, rfl⟩
      rw [hmm] at hor
      have HMM : Hid (leN ((s.data.toList.take wd).drop j) = mm) := hid (by rw [HST.out, ← hmm]; omega)
      clear hmm
      go_wp2
      go_roundw
      case rel => exact ⟨j, by omega, by go_num, by rw [HMM.out], by first | rfl | trivial⟩
      case measure => simp [intOf]

/-- A reader that has taken: what is answered, what is left, whether it is bad. -/
structure Took (w w' : World) (b : Nat) (r : Ending) (t s' : ByteArray) (bad' : Bool) : Prop where
  res : r = .returned (.string t)
  st : RdS w' b s' bad'
  keep : Keep (fun g => g = b) w w'

set_option maxRecDepth 20000 in
set_option maxHeartbeats 8000000 in
theorem rd_take_bad (b : Nat) (s : ByteArray) (fr n : Int) (is : Bool) (w : World) (h : RdS w b s true) :
    Calls Tryz.prog 57 #[.pointer (some ⟨b, 0, none⟩), .int .i64 fr, .int .i64 n, .bool is] w fun r w' => Took w w' b r ⟨#[]⟩ s true := by
  have H := hid h
  clear h
  go_enter Tryz.func57, Tryz.ntmps57
  go_wp2_with fail
  refine (rd_bad b s true _ H.out).mono ?_
  rintro r w' ⟨rfl, rfl⟩
  go_wp2
  go_ret
  exact ⟨rfl, H.out, Keep.refl _ _⟩
set_option maxRecDepth 20000 in
set_option maxHeartbeats 8000000 in
theorem rd_take_no (b : Nat) (s : ByteArray) (fr : Nat) (n : Int) (is : Bool) (w : World) (hfr : fr ≤ 9) (hs : s.size ≤ 9223372036854775807) (hno : is = false ∨ n < 0 ∨ (s.size : Int) - fr < n) (h : RdS w b s false) :
    Calls Tryz.prog 57 #[.pointer (some ⟨b, 0, none⟩), .int .i64 (fr : Int), .int .i64 n, .bool is] w fun r w' => Took w w' b r ⟨#[]⟩ s true := by
  have c0 : w.cell? ⟨b, 0, none⟩ = some (.string s) := cell_of h (by rfl)
  have c1 : w.cell? ⟨b, 1, none⟩ = some (.bool false) := cell_of h (by rfl)
  have f1 : w.frozen? ⟨b, 1, none⟩ = false := free_of h 1
  have H := hid h
  have HE : Hid (Took w (w.setCell ⟨b, 1, none⟩ (.bool true)) b (.returned (.string ⟨#[]⟩)) ⟨#[]⟩ s true) := hid ⟨rfl, hsc_same h 1 _, (Keep.refl (fun g => g = b) w).setCell (p := ⟨b, 1, none⟩) rfl _⟩
  clear h
  go_enter Tryz.func57, Tryz.ntmps57
  go_wp2_with fail
  refine (rd_bad b s false _ H.out).mono ?_
  rintro r w' ⟨rfl, rfl⟩
  cases is
  · go_wp2
    go_ret
    exact HE.out
  by_cases h1 : n < 0
  · have g1 : decide (n < 0) = true := decide_eq_true h1
    clear hno
    go_wp2
    go_ret
    exact HE.out
  have g1 : decide (n < 0) = false := decide_eq_false h1
  have h2 : (s.size : Int) - fr < n := by rcases hno with h | h | h; exact absurd h (by simp); exact absurd h h1; exact h
  have g2 : decide ((s.size : Int) - (fr : Int) < n) = true := decide_eq_true h2
  clear hno h1 h2
  go_wp2
  go_ret
  exact HE.out
set_option maxRecDepth 20000 in
set_option maxHeartbeats 8000000 in
theorem rd_take_yes (b : Nat) (s : ByteArray) (fr n : Nat) (w : World) (hs : s.size ≤ 9223372036854775807) (hle : fr + n ≤ s.size) (h : RdS w b s false) :
    Calls Tryz.prog 57 #[.pointer (some ⟨b, 0, none⟩), .int .i64 (fr : Int), .int .i64 (n : Int), .bool true] w fun r w' => Took w w' b r (s.extract fr (fr + n)) (s.extract (fr + n) s.size) false := by
  have c0 : w.cell? ⟨b, 0, none⟩ = some (.string s) := cell_of h (by rfl)
  have c1 : w.cell? ⟨b, 1, none⟩ = some (.bool false) := cell_of h (by rfl)
  have f0 : w.frozen? ⟨b, 0, none⟩ = false := free_of h 0
  have H := hid h
  have HE : Hid (∀ t, Took w (w.setCell ⟨b, 0, none⟩ (.string (s.extract (fr + n) s.size))) b (.returned (.string t)) t (s.extract (fr + n) s.size) false) := hid (fun t => ⟨rfl, hsc_same h 0 _, (Keep.refl (fun g => g = b) w).setCell (p := ⟨b, 0, none⟩) rfl _⟩)
  clear h
  go_enter Tryz.func57, Tryz.ntmps57
  go_wp2_with fail
  refine (rd_bad b s false _ H.out).mono ?_
  rintro r w' ⟨rfl, rfl⟩
  have g1 : decide ((n : Int) < 0) = false := decide_eq_false (by omega)
  have g2 : decide ((s.size : Int) - (fr : Int) < (n : Int)) = false := decide_eq_false (by omega)
  have g3 : (0 : Int) ≤ (fr : Int) ∧ (fr : Int) ≤ (fr : Int) + (n : Int) ∧ (fr : Int) + (n : Int) ≤ (s.size : Int) := ⟨by omega, by omega, by omega⟩
  go_wp2
  go_ret
  exact HE.out _

set_option maxRecDepth 20000 in
set_option maxHeartbeats 8000000 in
theorem rd_num_yes (b : Nat) (s : ByteArray) (wd : Nat) (hwd : WideOk wd) (w : World) (hs : s.size ≤ 9223372036854775807) (hle : wd ≤ s.size) (h : RdS w b s false) :
    Calls Tryz.prog 27 #[.pointer (some ⟨b, 0, none⟩), .int .i64 (wd : Int)] w fun r w' => r = .returned (.int .u64 (firstN s wd : Int)) ∧ RdS w' b (s.extract wd s.size) false ∧ Keep (fun g => g = b) w w' := by
  have H := hid h
  clear h
  go_enter Tryz.func27, Tryz.ntmps27
  go_wp2_with fail
  refine (rd_see b s false wd hwd _ H.out).mono ?_
  rw [if_pos ⟨rfl, hle⟩]
  rintro r w1 ⟨rfl, rfl⟩
  go_wp2_with fail
  have ht := rd_take_yes b s 0 wd w hs (by omega) H.out
  simp only [Nat.zero_add] at ht
  refine ht.mono ?_
  clear ht
  rintro r w2 ⟨rfl, h1, h2⟩
  have H1 := hid h1; have H2 := hid h2
  clear h1 h2
  go_wp2
  go_ret
  exact ⟨rfl, H1.out, H2.out⟩
set_option maxRecDepth 20000 in
set_option maxHeartbeats 8000000 in
theorem rd_num_no (b : Nat) (s : ByteArray) (bad : Bool) (wd : Nat) (hwd : WideOk wd) (w : World) (hs : s.size ≤ 9223372036854775807) (hno : bad = true ∨ s.size < wd) (h : RdS w b s bad) :
    Calls Tryz.prog 27 #[.pointer (some ⟨b, 0, none⟩), .int .i64 (wd : Int)] w fun r w' => r = .returned (.int .u64 0) ∧ RdS w' b s true ∧ Keep (fun g => g = b) w w' := by
  have H := hid h
  clear h
  go_enter Tryz.func27, Tryz.ntmps27
  go_wp2_with fail
  refine (rd_see b s bad wd hwd _ H.out).mono ?_
  rw [if_neg (by rintro ⟨rfl, h⟩; rcases hno with h1 | h1; cases h1; omega)]
  rintro r w1 ⟨rfl, rfl⟩
  go_wp2_with fail
  cases bad
  · refine (rd_take_no b s 0 wd false w (by omega) hs (.inl rfl) H.out).mono ?_
    rintro r w2 ⟨rfl, h1, h2⟩
    have H1 := hid h1; have H2 := hid h2
    clear h1 h2
    go_wp2
    go_ret
    exact ⟨rfl, H1.out, H2.out⟩
  · refine (rd_take_bad b s 0 wd false w H.out).mono ?_
    rintro r w2 ⟨rfl, h1, h2⟩
    have H1 := hid h1; have H2 := hid h2
    clear h1 h2
    go_wp2
    go_ret
    exact ⟨rfl, H1.out, H2.out⟩
end Go.Proofs.YtfehiclbcebnoaaGreat

namespace Go.Proofs.YtfehiclbcebnoaaGreat
open Go.RowKit Go.Proofs.Heap Go.Proofs.Sch

section
variable {P : Program}
/-- A string behind an owned row: where the new row lies. -/
theorem append_str_at (w : World) (base : Nat) (t u ty e : TypeId) (i : TypeInfo) (ht : P.underlying t = some (.slice e)) (hu : P.underlying u = some .string) (hi : P.info? e = some i) (hz : i.zero = some (.int .u8 0))
    (hsize : i.size = 1) (hby : i.bytes = 1) (v : Value) (n : Nat) (xs : List Value) (hown : w.ownsRow base e 1 v n xs) (s : ByteArray) (h63 : n + s.size ≤ 140737488355328) (hbase : base ≤ w.heap.size) :
    ∃ v' w', (Builtin.append_ #[t, u] ty #[v, .string s]).run P w = .ok v' w' ∧ w'.ownsRow base e 1 v' (n + s.size) (xs ++ Lib.strCells s) ∧ w.grownBy w' v.ownBlock ∧ (∀ g, v'.ownBlock = some g → v.ownBlock = some g ∨ w.heap.size ≤ g) := by
  have h64 : n + s.size ≤ maxLen := by unfold maxLen; omega
  obtain ⟨v', w', hr, h2, h3, _⟩ := Lib.run_append_own_string (P := P) w base t u ty e i ht hu hi hz hsize hby v n xs hown s h64 h63 hbase
  refine ⟨v', w', hr, h2, h3, fun g' hg' => ?_⟩
  rcases owns_block hown with ⟨rfl, rfl, rfl⟩ | ⟨g, cap, cur, rfl, hbg, hg, hnc, hcm, hcs, htk⟩
  · obtain ⟨v2, w2, hr2, k2, _, _⟩ := Lib.run_append_own_string (P := P) w w.heap.size t u ty e i ht hu hi hz hsize hby (.slice none 0 0) 0 [] (World.ownsRow_nil w _ e 1) s h64 h63 (Nat.le_refl _)
    rw [hr] at hr2
    injection hr2 with e1 e2
    subst e1
    exact .inr (k2.lt g' hg').1
  · by_cases hroom : n + s.size ≤ cap
    · have hr2 := Lib.run_append_room_string (P := P) w t u ty e i ht hu hi hsize g n cap cur hg s hroom (by omega)
      rw [hr] at hr2
      injection hr2 with e1 e2
      subst e1
      exact .inl hg'
    · have hr2 := Lib.run_append_grow_string (P := P) w t u ty e i (.int .u8 0) ht hu hi hz ⟨g, 0, none⟩ n cap xs (by rw [hsize]; exact hown.1) (hown.cells (g := g) rfl) s (by omega) (by omega) (by rw [hby]; exact growslice_fits (by omega) (by omega))
      rw [hr] at hr2
      injection hr2 with e1 e2
      subst e1
      right
      simp [Value.ownBlock] at hg'
      omega
theorem wpList_append_str {w : World} {ops : Array Oper} {rest : List Oper} {o : Oper} {a : Act} {Q : Exit → Act → World → Prop} (hgd : o.guard = none) (sl x : Operand) (t u : TypeId)
    (ho : o.op = .call { callee := .builtin .append, args := #[sl, x], argTypes := #[t, u] })
    (base : Nat) (e : TypeId) (i : TypeInfo) (ht : P.underlying t = some (.slice e)) (hu : P.underlying u = some .string) (hi : P.info? e = some i) (hz : i.zero = some (.int .u8 0))
    (hsize : i.size = 1) (hby : i.bytes = 1)
    (v : Value) (n : Nat) (xs : List Value) (hs : a.eval sl = v) (hown : w.ownsRow base e 1 v n xs) (s : ByteArray) (hx : a.eval x = .string s)
    (h63 : n + s.size ≤ 140737488355328) (hbase : base ≤ w.heap.size)
    (h : ∀ v' w', w'.ownsRow base e 1 v' (n + s.size) (xs ++ Lib.strCells s) → w.grownBy w' v.ownBlock → (∀ g, v'.ownBlock = some g → v.ownBlock = some g ∨ w.heap.size ≤ g) → wpList P ops Q rest (a.put o.dst v') w') : wpList P ops Q (o :: rest) a w := by
  refine wpList_plain hgd fun K hK => ?_
  obtain ⟨v', w', hr, h2, h3, h4⟩ := append_str_at (P := P) w base t u o.type e i ht hu hi hz hsize hby v n xs hown s h63 hbase
  unfold Oper.wp execOp
  simp only [ho, resolve, invoke, builtin, Sem.run_bind, Sem.run_pure, Result.andThen_ok, List.map_toArray, List.map_cons, List.map_nil, hs, hx, hr]
  exact hK _ _ (h v' w' h2 h3 h4)
end
theorem WrN.trans {w w1 w2 : World} {base q : Nat} {sv sv1 sv2 : Value} {l1 l2 : List UInt8} (h : WrN w w1 base q sv sv1 l1) (h2 : WrN w1 w2 base q sv1 sv2 l2) (hq : q < w.heap.size) : WrN w w2 base q sv sv2 l2 := by
  refine ⟨h2.st, ?_, fun g hg => ?_⟩
  · refine ⟨h2.keep.os.trans h.keep.os, h2.keep.tape.trans h.keep.tape, h2.keep.output.trans h.keep.output, Nat.le_trans h.keep.size h2.keep.size, fun k hk hs => ?_⟩
    refine (h2.keep.block k (Nat.lt_of_lt_of_le hk h.keep.size) (fun e => ?_)).trans (h.keep.block k hk hs)
    rcases e with rfl | e
    · exact hs (.inl rfl)
    · rcases h.own k e with e | e
      · exact hs (.inr e)
      · omega
  · rcases h2.own g hg with e | e
    · exact h.own g e
    · exact .inr (Nat.le_trans h.keep.size e)
theorem WrN.refl {w : World} {base q : Nat} {sv : Value} {l : List UInt8} (h : WrS w base q sv l) : WrN w w base q sv sv l := ⟨h, Keep.refl _ _, fun _ hg => .inl hg⟩
theorem wr_ne {w : World} {base q : Nat} {sv : Value} {n : Nat} {xs : List Value} {c : Array Value} (h : w.ownsRow base 5 1 sv n xs) (hq : w.heap[q]? = some (.cells c 61 (0, 0))) : sv.ownBlock ≠ some q := by
  intro e
  rcases owns_block h with ⟨rfl, _⟩ | ⟨g, cap, cur, rfl, _, hg, _⟩
  · simp [Value.ownBlock] at e
  · simp [Value.ownBlock] at e
    subst e
    rw [hg] at hq
    injection hq with hq
    injection hq with _ hq
    exact absurd hq (by decide)

set_option maxRecDepth 20000 in
set_option maxHeartbeats 8000000 in
theorem wr_raw (s : ByteArray) (base q : Nat) (sv : Value) (l : List UInt8) (w : World) (hll : l.length + s.size ≤ 1000000) (hW : WrS w base q sv l) :
    Calls Tryz.prog 20 #[.pointer (some ⟨q, 0, none⟩), .string s] w fun r w' => ∃ sv', r = .returned (.bool true) ∧ WrN w w' base q sv sv' (l ++ s.data.toList) := by
  obtain ⟨i0, hi0, hz0, hz1, hz2⟩ := info_parts' info_u8
  obtain ⟨vp, vc, rfl⟩ := owns_val hW.own
  have c0 : w.cell? ⟨q, 0, none⟩ = some (.slice vp l.length vc) := cell_of hW.block (by rfl)
  have HW := hid hW; have HL := hid hll
  have HQ := hid (lt_of_heap hW.block)
  clear hW hll
  go_enter Tryz.func20, Tryz.ntmps20
  go_wp2_with (at_builtin; refine wpList_append_str rfl (.tmp 11) (.tmp 12) 59 9 rfl base 5 i0 Tryz.underlying59 Tryz.underlying9 hi0 hz0 hz1 hz2 _ l.length _ (by rfl) HW.out.own s (by rfl) (by have := HL.out; omega) (by have := HW.out.base; have := HQ.out; omega) ?_)
  intro v5 w5 hown5 hgrow5 hat5
  have hb5 : w5.heap[q]? = some (.cells #[.slice vp l.length vc] 61 (0, 0)) := (hgrow5.block q HQ.out (fun e => HW.out.ne e.symm)).trans HW.out.block
  have c5 : w5.cell? ⟨q, 0, none⟩ = some (.slice vp l.length vc) := cell_of hb5 (by rfl)
  have f5 : w5.frozen? ⟨q, 0, none⟩ = false := free_of hb5 0
  have hne := wr_ne hown5 hb5
  have HE : Hid (WrN w (w5.setCell ⟨q, 0, none⟩ v5) base q (.slice vp l.length vc) v5 (l ++ s.data.toList)) := hid (by
    refine ⟨⟨by simpa using hsc_same hb5 0 v5, ?_, hne, HW.out.base⟩, ?_, hat5⟩
    · have h1 : (l ++ s.data.toList).length = l.length + s.size := by rw [List.length_append, Array.length_toList]; rfl
      rw [h1, List.map_append]
      exact owns_keep hown5 (fun g hg => hsc_ne _ (fun e => hne (e ▸ hg)))
    · exact Keep.setCell (Keep.grown (Keep.refl _ w) hgrow5 (fun k hk => .inr (.inr hk))) (p := ⟨q, 0, none⟩) (.inl rfl) _)
  obtain ⟨vq, vd, rfl⟩ := owns_val hown5
  clear hown5 hgrow5 hb5 hne hat5
  go_wp2
  go_ret
  exact ⟨_, rfl, HE.out⟩

/-- A short text's bytes. -/
def nameL (s : ByteArray) : List UInt8 := leL 1 s.size ++ s.data.toList
theorem nameL_len (s : ByteArray) : (nameL s).length = s.size + 1 := by unfold nameL; rw [List.length_append, leL_len, Array.length_toList]; exact Nat.add_comm _ _
set_option maxRecDepth 20000 in
set_option maxHeartbeats 8000000 in
theorem wr_name (s : ByteArray) (hs : s.size ≤ 255) (base q : Nat) (sv : Value) (l : List UInt8) (w : World) (hll : l.length + s.size + 1 ≤ 1000000) (hW : WrS w base q sv l) :
    Calls Tryz.prog 63 #[.pointer (some ⟨q, 0, none⟩), .string s] w fun r w' => ∃ sv', r = .returned (.bool true) ∧ WrN w w' base q sv sv' (l ++ nameL s) := by
  have HQ := hid (lt_of_heap hW.block)
  have HC1 := hid (oct_num1 s.size (by omega) base q sv l w (by omega) hW)
  have HC2 := hid (fun (sv1 : Value) (w1 : World) (h1 : WrS w1 base q sv1 (l ++ leL 1 s.size)) => wr_raw s base q sv1 _ w1 (by rw [List.length_append, leL_len]; omega) h1)
  have g1 : decide ((s.size : Int) ≤ 255) = true := decide_eq_true (by omega)
  have g2 : decide (s.size ≤ 255) = true := decide_eq_true hs
  have hwr : IntKind.u64.wrap (s.size : Int) = (s.size : Int) := by simp [IntKind.wrap, IntKind.bits, IntKind.signed]; omega
  clear hW hll
  go_enter Tryz.func63, Tryz.ntmps63
  go_wp2_with fail
  refine HC1.out.mono ?_
  rintro r w1 ⟨sv1, rfl, hn⟩
  have H1 := hid hn
  clear hn
  go_wp2_with fail
  refine (HC2.out sv1 w1 H1.out.st).mono ?_
  rintro r w2 ⟨sv2, rfl, hn⟩
  have H2 := hid hn
  clear hn
  go_wp2
  go_ret
  refine ⟨sv2, rfl, ?_⟩
  have h := H1.out.trans H2.out HQ.out
  rw [List.append_assoc] at h
  exact h

/-- Whether a short text can be read. -/
def nmOk (s : ByteArray) : Prop := 1 ≤ s.size ∧ 1 + firstN s 1 ≤ s.size
instance (s : ByteArray) : Decidable (nmOk s) := by unfold nmOk; exact inferInstance
set_option maxRecDepth 20000 in
set_option maxHeartbeats 8000000 in
theorem rd_name_yes (b : Nat) (s : ByteArray) (w : World) (hs : s.size ≤ 9223372036854775807) (hok : nmOk s) (h : RdS w b s false) :
    Calls Tryz.prog 64 #[.pointer (some ⟨b, 0, none⟩)] w fun r w' => Took w w' b r (s.extract 1 (1 + firstN s 1)) (s.extract (1 + firstN s 1) s.size) false := by
  have HOK := hid hok
  have H := hid h
  have hlt : firstN s 1 < 256 := by
    have := leN_lt (s.data.toList.take 1)
    have h2 : 256 ^ (s.data.toList.take 1).length ≤ 256 ^ 1 := pow_le (by rw [List.length_take]; omega)
    unfold firstN; omega
  have HS := hid (rd_see b s false 1 (by unfold WideOk; omega) w h)
  rw [if_pos ⟨rfl, hok.1⟩] at HS
  have hwr : wrap64 (firstN s 1 : Int) = (firstN s 1 : Int) := by unfold wrap64; omega
  have HT := hid (rd_take_yes b s 1 (firstN s 1) w hs hok.2 h)
  clear hok h
  generalize firstN s 1 = n at *
  go_enter Tryz.func64, Tryz.ntmps64
  go_wp2_with fail
  refine HS.out.mono ?_
  rintro r w1 ⟨rfl, rfl⟩
  go_wp2_with fail
  refine HT.out.mono ?_
  rintro r w2 ⟨rfl, h1, h2⟩
  have H1 := hid h1; have H2 := hid h2
  clear h1 h2
  go_wp2
  go_ret
  exact ⟨rfl, H1.out, H2.out⟩
set_option maxRecDepth 20000 in
set_option maxHeartbeats 8000000 in
theorem rd_name_no (b : Nat) (s : ByteArray) (bad : Bool) (w : World) (hs : s.size ≤ 9223372036854775807) (hno : bad = true ∨ ¬ nmOk s) (h : RdS w b s bad) :
    Calls Tryz.prog 64 #[.pointer (some ⟨b, 0, none⟩)] w fun r w' => Took w w' b r ⟨#[]⟩ s true := by
  have HS := hid (rd_see b s bad 1 (by unfold WideOk; omega) w h)
  have hlt : firstN s 1 < 256 := by
    have := leN_lt (s.data.toList.take 1)
    have h2 : 256 ^ (s.data.toList.take 1).length ≤ 256 ^ 1 := pow_le (by rw [List.length_take]; omega)
    unfold firstN; omega
  have hwr : wrap64 (firstN s 1 : Int) = (firstN s 1 : Int) := by unfold wrap64; omega
  have hwr0 : wrap64 (0 : Int) = (0 : Int) := by unfold wrap64; omega
  cases bad
  · have hno2 : ¬ nmOk s := by rcases hno with h | h; cases h; exact h
    by_cases h1 : 1 ≤ s.size
    · rw [if_pos ⟨rfl, h1⟩] at HS
      have HT := hid (rd_take_no b s 1 (firstN s 1) true w (by omega) hs (.inr (.inr (by unfold nmOk at hno2; omega))) h)
      clear hno hno2 h h1
      generalize firstN s 1 = n at *
      go_enter Tryz.func64, Tryz.ntmps64
      go_wp2_with fail
      refine HS.out.mono ?_
      rintro r w1 ⟨rfl, rfl⟩
      go_wp2_with fail
      refine HT.out.mono ?_
      rintro r w2 ⟨rfl, h1, h2⟩
      have H1 := hid h1; have H2 := hid h2
      clear h1 h2
      go_wp2
      go_ret
      exact ⟨rfl, H1.out, H2.out⟩
    · rw [if_neg (by rintro ⟨_, h⟩; exact h1 h)] at HS
      have HT := hid (rd_take_no b s 1 0 false w (by omega) hs (.inl rfl) h)
      clear hno hno2 h h1
      go_enter Tryz.func64, Tryz.ntmps64
      go_wp2_with fail
      refine HS.out.mono ?_
      rintro r w1 ⟨rfl, rfl⟩
      go_wp2_with fail
      refine HT.out.mono ?_
      rintro r w2 ⟨rfl, h1, h2⟩
      have H1 := hid h1; have H2 := hid h2
      clear h1 h2
      go_wp2
      go_ret
      exact ⟨rfl, H1.out, H2.out⟩
  · rw [if_neg (by rintro ⟨h, _⟩; cases h)] at HS
    have HT := hid (rd_take_bad b s 1 0 false w h)
    clear hno h
    go_enter Tryz.func64, Tryz.ntmps64
    go_wp2_with fail
    refine HS.out.mono ?_
    rintro r w1 ⟨rfl, rfl⟩
    go_wp2_with fail
    refine HT.out.mono ?_
    rintro r w2 ⟨rfl, h1, h2⟩
    have H1 := hid h1; have H2 := hid h2
    clear h1 h2
    go_wp2
    go_ret
    exact ⟨rfl, H1.out, H2.out⟩
end Go.Proofs.YtfehiclbcebnoaaGreat

namespace Go.Proofs.YtfehiclbcebnoaaGreat
open Go.RowKit Go.Proofs.Heap Go.Proofs.Sch

/-- An int's 64 bits, as a number. -/
def u64N (k : Int) : Nat := (k % 18446744073709551616).toNat
theorem u64N_eq (k : Int) : IntKind.u64.wrap k = (u64N k : Int) := by
  unfold u64N
  simp [IntKind.wrap, IntKind.bits, IntKind.signed]
  omega
theorem u64N_lt (k : Int) : u64N k < 18446744073709551616 := by unfold u64N; omega
theorem u64N_nat {n : Nat} (h : n < 18446744073709551616) : u64N (n : Int) = n := by unfold u64N; omega
theorem u64N_pos {k : Int} (h0 : 0 ≤ k) (h : k < 18446744073709551616) : u64N k = k.toNat := by unfold u64N; omega
theorem flat_next {α : Type} (f : α → List UInt8) {l : List α} {k : Nat} {x : α} (h : l[k]? = some x) : (l.take (k + 1)).flatMap f = (l.take k).flatMap f ++ f x := by
  rw [take_next h, List.flatMap_append]; simp
/-- What is left, and whether it is bad. -/
abbrev St := ByteArray × Bool
def rdN (wd : Nat) (st : St) : Nat × St := if st.2 = false ∧ wd ≤ st.1.size then (firstN st.1 wd, (st.1.extract wd st.1.size, false)) else (0, (st.1, true))
def rdNm (st : St) : ByteArray × St := if st.2 = false ∧ nmOk st.1 then (st.1.extract 1 (1 + firstN st.1 1), (st.1.extract (1 + firstN st.1 1) st.1.size, false)) else (⟨#[]⟩, (st.1, true))
theorem rdN_lt (wd : Nat) (st : St) : (rdN wd st).1 < 256 ^ wd := by
  unfold rdN
  split
  · exact firstN_lt _ _
  · exact Nat.pow_pos (by decide)
theorem rdN_size (wd : Nat) (st : St) : (rdN wd st).2.1.size ≤ st.1.size := by
  unfold rdN
  split
  · rw [ByteArray.size_extract]; omega
  · exact Nat.le_refl _
theorem rdNm_size (st : St) : (rdNm st).2.1.size ≤ st.1.size := by
  unfold rdNm
  split
  · rw [ByteArray.size_extract]; omega
  · exact Nat.le_refl _
theorem rd_num (b : Nat) (st : St) (wd : Nat) (hwd : WideOk wd) (w : World) (hs : st.1.size ≤ 9223372036854775807) (h : RdS w b st.1 st.2) :
    Calls Tryz.prog 27 #[.pointer (some ⟨b, 0, none⟩), .int .i64 (wd : Int)] w fun r w' => r = .returned (.int .u64 ((rdN wd st).1 : Int)) ∧ RdS w' b (rdN wd st).2.1 (rdN wd st).2.2 ∧ Keep (fun g => g = b) w w' := by
  obtain ⟨s, bad⟩ := st
  by_cases hc : bad = false ∧ wd ≤ s.size
  · have e : rdN wd (s, bad) = (firstN s wd, (s.extract wd s.size, false)) := if_pos hc
    rw [e]
    obtain ⟨rfl, hle⟩ := hc
    exact rd_num_yes b s wd hwd w hs hle h
  · have e : rdN wd (s, bad) = (0, (s, true)) := if_neg hc
    rw [e]
    refine rd_num_no b s bad wd hwd w hs ?_ h
    cases bad
    · right; simp at hc; omega
    · exact .inl rfl
theorem rd_nm (b : Nat) (st : St) (w : World) (hs : st.1.size ≤ 9223372036854775807) (h : RdS w b st.1 st.2) :
    Calls Tryz.prog 64 #[.pointer (some ⟨b, 0, none⟩)] w fun r w' => r = .returned (.string (rdNm st).1) ∧ RdS w' b (rdNm st).2.1 (rdNm st).2.2 ∧ Keep (fun g => g = b) w w' := by
  obtain ⟨s, bad⟩ := st
  by_cases hc : bad = false ∧ nmOk s
  · have e : rdNm (s, bad) = (s.extract 1 (1 + firstN s 1), (s.extract (1 + firstN s 1) s.size, false)) := if_pos hc
    rw [e]
    obtain ⟨rfl, hle⟩ := hc
    exact (rd_name_yes b s w hs hle h).mono (fun r w' h => ⟨h.res, h.st, h.keep⟩)
  · have e : rdNm (s, bad) = (⟨#[]⟩, (s, true)) := if_neg hc
    rw [e]
    refine (rd_name_no b s bad w hs ?_ h).mono (fun r w' h => ⟨h.res, h.st, h.keep⟩)
    cases bad
    · right; intro h2; exact hc ⟨rfl, h2⟩
    · exact .inl rfl
def rdRow {α : Type} (f : St → α × St) : Nat → St → List α × St
  | 0, st => ([], st)
  | n + 1, st => if st.2 = true then ([], st) else ((f st).1 :: (rdRow f n (f st).2).1, (rdRow f n (f st).2).2)
theorem rdRow_bad {α : Type} (f : St → α × St) (n : Nat) {st : St} (h : st.2 = true) : rdRow f n st = ([], st) := by
  cases n
  · rfl
  · rw [rdRow, if_pos h]
theorem rdRow_next {α : Type} (f : St → α × St) (n : Nat) {st : St} (h : st.2 = false) : rdRow f (n + 1) st = ((f st).1 :: (rdRow f n (f st).2).1, (rdRow f n (f st).2).2) := by
  rw [rdRow, if_neg (by rw [h]; simp)]
theorem rdRow_len {α : Type} (f : St → α × St) : ∀ (n : Nat) (st : St), (rdRow f n st).1.length ≤ n
  | 0, _ => Nat.le_refl _
  | n + 1, st => by
    rw [rdRow]
    split
    · simp
    · simp only [List.length_cons]; have := rdRow_len f n (f st).2; omega
end Go.Proofs.YtfehiclbcebnoaaGreat
