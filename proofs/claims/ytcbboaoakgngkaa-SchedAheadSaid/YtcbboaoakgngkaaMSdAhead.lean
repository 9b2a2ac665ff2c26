/- What is proved: whether one system stands ahead of another one, in a row of places. -/
import Derived.Test.YtcbboaoakgngkaaMSdStage
import Derived.Test.YtcbboaoakgngkaaMVfLaw
import Derived.Test.YtcbboaoakgngkaaProg
import Derived.Deep.Slices
import Derived.Deep.Strs
import Derived.ProofKit
import Derived.OpenShut
import Derived.ShutString
import Derived.ChangeOld
import Derived.Below
import Derived.Test.YtcbboaoakgngkaaMVf8
import Derived.Deep.Grids
namespace Go.Proofs.Ytcbboaoakgngkaa
open Go.RowKit Go.Proofs.Heap Go.Proofs.Sch

/-- A row of numbers. -/
def IntAt (w : World) (b o : Nat) (x : Int) : Prop := w.cell? ⟨b, o, none⟩ = some (.int .i64 x)
abbrev IP := RowP 1 IntAt
theorem IP.low {w w' : World} {B : Nat} {p : Option Addr} {l : List Int} (h : IP w B p l) (hl : Low B w w') : IP w' B p l :=
  RowP.imp h (Nat.le_refl _) fun b o x hb hx => by unfold IntAt at *; rw [hl.cell hb]; exact hx
theorem IP.mono {w : World} {B B' : Nat} {p : Option Addr} {l : List Int} (h : IP w B p l) (hB : B ≤ B') : IP w B' p l := RowP.imp h hB fun _ _ _ _ hx => hx
theorem IP.at {w : World} {B : Nat} {p : Option Addr} {l : List Int} (h : IP w B p l) {i : Nat} {s : Int} (hi : l[i]? = some s) : ∃ b off, p = some ⟨b, off, none⟩ ∧ b < B ∧ w.cell? ⟨b, off + i, none⟩ = some (.int .i64 s) := by
  rcases h with rfl | ⟨b, off, hp, hb, hc⟩
  · simp at hi
  · have := hc i s hi
    rw [Nat.mul_one] at this
    exact ⟨b, off, hp, hb, this⟩
theorem IP.own {w : World} {base n c : Nat} {e : TypeId} {p : Option Addr} {l : List Nat} (hn : l.length = n) (h : w.ownsRow base e 1 (.slice p n c) n (l.map iV)) : IP w w.heap.size p (l.map (fun i : Nat => (i : Int))) := by
  rcases Nat.eq_zero_or_pos n with h0 | h0
  · exact .inl (by rw [List.eq_nil_of_length_eq_zero (by omega : l.length = 0)]; rfl)
  · obtain ⟨q, rfl⟩ := owns_some h h0
    refine .inr ⟨q, 0, rfl, (h.lt q (by simp [Value.ownBlock])).2, fun i x hx => ?_⟩
    have hi : i < n := by have := (List.getElem?_eq_some_iff.1 hx).1; rw [List.length_map] at this; omega
    unfold IntAt
    rw [Nat.zero_add, Nat.mul_one, owns_cell h hi]
    rw [List.getElem?_map] at hx ⊢
    cases hy : l[i]? with
    | none => rw [hy] at hx; cases hx
    | some y => rw [hy] at hx; injection hx with hx; rw [← hx]; rfl

def outB (n : Nat) (i : Int) : Bool := decide (i < 0 ∨ (n : Int) ≤ i)
theorem out_clo (n qc : Nat) (q : Option Addr) (i : Int) (lb : Nat) (w : World) (hc : w.cell? ⟨lb, 0, none⟩ = some (.slice q n qc)) :
    Calls Try.prog 51 #[.int .i64 i, .pointer (some ⟨lb, 0, none⟩)] w fun r w' => r = .returned (.bool (outB n i)) ∧ w = w' := by
  have HO : Hid (outB n i = decide (i < 0 ∨ (n : Int) ≤ i)) := hid rfl
  generalize outB n i = R at *
  by_cases h1 : i < 0
  · have g1 : decide (i < 0) = true := decide_eq_true h1
    have G : Hid (R = true) := hid (by rw [HO.out, decide_eq_true (.inl h1)])
    clear h1
    go_enter Try.func51, Try.ntmps51
    go_wp2
    go_ret
    exact ⟨by rw [G.out]; rfl, rfl⟩
  have g1 : decide (i < 0) = false := decide_eq_false h1
  by_cases h2 : (n : Int) ≤ i
  · have g2 : decide ((n : Int) ≤ i) = true := decide_eq_true h2
    have G : Hid (R = true) := hid (by rw [HO.out, decide_eq_true (.inr h2)])
    clear h1 h2
    go_enter Try.func51, Try.ntmps51
    go_wp2
    go_ret
    exact ⟨by rw [G.out]; rfl, rfl⟩
  · have g2 : decide ((n : Int) ≤ i) = false := decide_eq_false h2
    have G : Hid (R = false) := hid (by rw [HO.out, decide_eq_false (by omega)])
    clear h1 h2
    go_enter Try.func51, Try.ntmps51
    go_wp2
    go_ret
    exact ⟨by rw [G.out]; rfl, rfl⟩

set_option maxRecDepth 20000 in
set_option maxHeartbeats 4000000 in
theorem idx_out (zs : List Int) (n qc : Nat) (q : Option Addr) (lb : Nat) (p : Option Addr) (cap : Nat) (w : World) (hl : zs.length ≤ 65536) (hf : IP w w.heap.size p zs) (hc : w.cell? ⟨lb, 0, none⟩ = some (.slice q n qc)) :
    Calls Try.prog 53 #[.slice p zs.length cap, .func (.func 51) #[] #[.pointer (some ⟨lb, 0, none⟩)]] w fun r w' => r = .returned (.int .i64 (idxI (outB n) zs)) ∧ w = w' := by
  have HF := hid hf
  have HQ := hid (fun i => out_clo n qc q i lb w hc)
  clear hf hc
  generalize outB n = ob at *
  go_enter Try.func53, Try.ntmps53
  go_wp2_with fail
  go_loopw [5, 8] (fun _ i wr => ∃ k : Nat, k ≤ zs.length ∧ i = iV k ∧ w = wr ∧ ∀ c ∈ zs.take k, ob c = false) (fun _ i _ => zs.length + 1 - (intOf i).toNat)
  case atStart => exact ⟨0, by omega, rfl, rfl, by simp⟩
  case round =>
    obtain ⟨k, hk, rfl, rfl, hall⟩ := hrel
    have HA := hid hall
    clear hall
    by_cases hlt : k < zs.length
    · obtain ⟨x, hxk⟩ : ∃ x, zs[k]? = some x := ⟨zs[k], by simp [hlt]⟩
      obtain ⟨b, off, rfl, hb, c0⟩ := IP.at HF.out hxk
      have hin : (0 : Int) ≤ (k : Int) ∧ (k : Int) < (zs.length : Int) := ⟨by omega, by omega⟩
      have HCK := hid hxk
      clear hxk hb
      go_wp2_with fail
      refine (HQ.out x).mono ?_
      rintro r w_ ⟨rfl, rfl⟩
      clear c0
      cases hqc : ob x
      · have HN : Hid (∀ d ∈ zs.take (k + 1), ob d = false) := hid (fun d hd => by
          rw [take_next HCK.out] at hd
          rcases List.mem_append.1 hd with h | h
          · exact HA.out d h
          · rw [List.mem_singleton.1 h]; exact hqc)
        clear hqc
        go_wp2
        go_roundw
        case rel => exact ⟨k + 1, by omega, by go_num, by first | rfl | trivial, HN.out⟩
        case measure => simp [intOf]; omega
      · have G3 := hid (idx_at HCK.out hqc HA.out)
        clear hqc
        go_wp2
        go_ret
        exact ⟨by rw [G3.out]; rfl, rfl⟩
    · obtain rfl : k = zs.length := by omega
      have g1 : decide ((zs.length : Int) < (zs.length : Int)) = false := decide_eq_false (by omega)
      have g2 : decide (zs.length < zs.length) = false := decide_eq_false (by omega)
      have G3 := hid (idx_none (q := ob) (l := zs) (by have := HA.out; rwa [List.take_length] at this))
      go_wp2
      go_ret
      exact ⟨by rw [G3.out]; rfl, rfl⟩
theorem idx_any_eq {α : Type} (q : α → Bool) (l : List α) : decide (0 ≤ idxI q l) = l.any q := by
  rcases idx_cases q l with h | ⟨k, x, h, _⟩
  · rw [h, idx_any_no _ _ h]; rfl
  · rw [idx_any _ _ ⟨k, h⟩, h]; exact decide_eq_true (Int.natCast_nonneg k)
set_option maxRecDepth 20000 in
theorem any_out (zs : List Int) (n qc : Nat) (q : Option Addr) (lb : Nat) (p : Option Addr) (cap : Nat) (w : World) (hl : zs.length ≤ 65536) (hf : IP w w.heap.size p zs) (hc : w.cell? ⟨lb, 0, none⟩ = some (.slice q n qc)) :
    Calls Try.prog 50 #[.slice p zs.length cap, .func (.func 51) #[] #[.pointer (some ⟨lb, 0, none⟩)]] w fun r w' => r = .returned (.bool (zs.any (outB n))) ∧ w = w' := by
  have HI := hid (idx_out zs n qc q lb p cap w hl hf hc)
  have HH := hid (idx_any_eq (outB n) zs)
  clear hl hf hc
  generalize idxI (outB n) zs = z at *
  generalize zs.any (outB n) = R at *
  go_enter Try.func50, Try.ntmps50
  go_wp2_with fail
  refine HI.out.mono ?_
  rintro r w1 ⟨rfl, rfl⟩
  go_wp2
  go_ret
  exact ⟨by rw [← HH.out]; rfl, rfl⟩

set_option maxRecDepth 20000 in
theorem nam_clo (l : List VSys) (q : Option Addr) (qc : Nat) (i : Nat) (lb nb : Nat) (t : ByteArray) (w : World) (hi : i < l.length) (hs : SP w w.heap.size q l) (hc : w.cell? ⟨lb, 0, none⟩ = some (.slice q l.length qc)) (hn : w.cell? ⟨nb, 0, none⟩ = some (.string t)) :
    Calls Try.prog 54 #[iV i, .pointer (some ⟨lb, 0, none⟩), .pointer (some ⟨nb, 0, none⟩)] w fun r w' => r = .returned (.bool (decide (nmS l i = t))) ∧ Keep (fun _ => False) w w' := by
  obtain ⟨b, off, rfl⟩ := sp_some hs hi
  have e0 : w.drew.cell? ⟨b, off + i * 6, none⟩ = some (.string (nmS l i)) := sys_name (SP.low hs (fun _ _ => rfl) : SP w.drew w.heap.size _ l) hi
  have hc' : w.drew.cell? ⟨lb, 0, none⟩ = some (.slice (some ⟨b, off, none⟩) l.length qc) := hc
  have hn' : w.drew.cell? ⟨nb, 0, none⟩ = some (.string t) := hn
  have hin : (0 : Int) ≤ (i : Int) ∧ (i : Int) < (l.length : Int) := ⟨by omega, by omega⟩
  have hsq := seq_dec (nmS l i) t
  have HK : Hid (Keep (fun _ => False) w w.drew) := hid (Keep.refl _ _).drew
  clear hs
  generalize decide (nmS l i = t) = R at *
  generalize nmS l i = s at *
  go_enter Try.func54, Try.ntmps54
  go_wp2_with fail
  refine Plan.wp_region_pl [(false, 0, []), (false, 1, []), (false, 2, []), (false, 3, []), (false, 4, []), (false, 5, []), (false, 6, []), (false, 7, [])] (by as_aux_lemma => kernel_rfl) (by as_aux_lemma => kernel_rfl) ?_
  iterate 8 (refine Plan.pl_st rfl ?_; go_big_quiet_step (fail); refine wpQuiet_nil ?_)
  refine Plan.pl_end ?_
  go_wp2
  go_ret
  exact ⟨by first | rfl | (rw [← hsq]; rfl), HK.out⟩

set_option maxRecDepth 20000 in
set_option maxHeartbeats 4000000 in
theorem idx_nam (l : List VSys) (q : Option Addr) (qc : Nat) (zs : List Nat) (lb nb : Nat) (t : ByteArray) (p : Option Addr) (cap : Nat) (w : World) (hl : zs.length ≤ 65536) (hz : ∀ i ∈ zs, i < l.length) (hf : IP w w.heap.size p (zs.map (fun i : Nat => (i : Int)))) (hs : SP w w.heap.size q l) (hc : w.cell? ⟨lb, 0, none⟩ = some (.slice q l.length qc)) (hn : w.cell? ⟨nb, 0, none⟩ = some (.string t)) :
    Calls Try.prog 53 #[.slice p zs.length cap, .func (.func 54) #[] #[.pointer (some ⟨lb, 0, none⟩), .pointer (some ⟨nb, 0, none⟩)]] w fun r w' => r = .returned (.int .i64 (idxI (fun i => decide (nmS l i = t)) zs)) ∧ Keep (fun _ => False) w w' := by
  have HF : Hid (∀ wy, Keep (fun _ => False) w wy → IP wy wy.heap.size p (zs.map (fun i : Nat => (i : Int)))) := hid (fun wy hk => IP.mono (IP.low hf (Low.keep0 hk)) hk.size)
  have HQ : Hid (∀ i wy, i < l.length → Keep (fun _ => False) w wy → Calls Try.prog 54 #[iV i, .pointer (some ⟨lb, 0, none⟩), .pointer (some ⟨nb, 0, none⟩)] wy fun r w' => r = .returned (.bool ((fun i => decide (nmS l i = t)) i)) ∧ Keep (fun _ => False) wy w') :=
    hid (fun i wy hi hk => nam_clo l q qc i lb nb t wy hi (SP.mono (SP.low hs (Low.keep0 hk)) hk.size) (((Low.keep0 hk).cell (o := 0) (World.block_lt_of_cell? w _ hc)).trans hc) (((Low.keep0 hk).cell (o := 0) (World.block_lt_of_cell? w _ hn)).trans hn))
  have HZ := hid hz
  obtain ⟨ob, hob⟩ : ∃ ob : Nat → Bool, ob = (fun i => decide (nmS l i = t)) := ⟨_, rfl⟩
  rw [← hob] at HQ
  rw [← hob]
  clear hf hc hs hn hob hz
  go_enter Try.func53, Try.ntmps53
  go_wp2_with fail
  go_loopw [5, 8] (fun _ i wr => ∃ k : Nat, k ≤ zs.length ∧ i = iV k ∧ Keep (fun _ => False) w wr ∧ ∀ c ∈ zs.take k, ob c = false) (fun _ i _ => zs.length + 1 - (intOf i).toNat)
  case atStart => exact ⟨0, by omega, rfl, Keep.refl _ _, by simp⟩
  case round =>
    obtain ⟨k, hk, rfl, hkr, hall⟩ := hrel
    have HA := hid hall; have HKR := hid hkr
    clear hall hkr
    by_cases hlt : k < zs.length
    · obtain ⟨x, hxk⟩ : ∃ x, zs[k]? = some x := ⟨zs[k], by simp [hlt]⟩
      obtain ⟨b, off, rfl, hb, c0⟩ := IP.at (HF.out _ HKR.out) (i := k) (s := (x : Int)) (by rw [List.getElem?_map, hxk]; rfl)
      have hin : (0 : Int) ≤ (k : Int) ∧ (k : Int) < (zs.length : Int) := ⟨by omega, by omega⟩
      have HCK := hid hxk
      have hxl := HZ.out x (List.mem_of_getElem? hxk)
      have HC := hid (HQ.out x wr hxl HKR.out)
      clear hxk hb hxl
      go_wp2_with fail
      refine HC.out.mono ?_
      rintro r w2 ⟨rfl, hk2⟩
      have HK2 := hid (HKR.out.trans hk2)
      clear c0 hk2 HC
      cases hqc : ob x
      · have HN : Hid (∀ d ∈ zs.take (k + 1), ob d = false) := hid (fun d hd => by
          rw [take_next HCK.out] at hd
          rcases List.mem_append.1 hd with h | h
          · exact HA.out d h
          · rw [List.mem_singleton.1 h]; exact hqc)
        clear hqc
        go_wp2
        go_roundw
        case rel => exact ⟨k + 1, by omega, by go_num, HK2.out, HN.out⟩
        case measure => simp [intOf]; omega
      · have G3 := hid (idx_at HCK.out hqc HA.out)
        clear hqc
        go_wp2
        go_ret
        exact ⟨by rw [G3.out]; rfl, HK2.out⟩
    · obtain rfl : k = zs.length := by omega
      have g1 : decide ((zs.length : Int) < (zs.length : Int)) = false := decide_eq_false (by omega)
      have g2 : decide (zs.length < zs.length) = false := decide_eq_false (by omega)
      have G3 := hid (idx_none (q := ob) (l := zs) (by have := HA.out; rwa [List.take_length] at this))
      go_wp2
      go_ret
      exact ⟨by rw [G3.out]; rfl, HKR.out⟩
/-- The place of a name in a row of places. -/
def plcS (l : List VSys) (zs : List Nat) (t : ByteArray) : Int := idxI (fun i => decide (nmS l i = t)) zs
set_option maxRecDepth 20000 in
theorem plc_clo (l : List VSys) (q : Option Addr) (qc : Nat) (zs : List Nat) (lb ob : Nat) (t : ByteArray) (p : Option Addr) (cap : Nat) (w : World) (hl : zs.length ≤ 65536) (hz : ∀ i ∈ zs, i < l.length) (hf : IP w w.heap.size p (zs.map (fun i : Nat => (i : Int)))) (hs : SP w w.heap.size q l) (hc : w.cell? ⟨lb, 0, none⟩ = some (.slice q l.length qc)) (ho : w.cell? ⟨ob, 0, none⟩ = some (.slice p zs.length cap)) :
    Calls Try.prog 52 #[.string t, .pointer (some ⟨ob, 0, none⟩), .pointer (some ⟨lb, 0, none⟩)] w fun r w' => r = .returned (.int .i64 (plcS l zs t)) ∧ Keep (fun _ => False) w w' := by
  obtain ⟨w1, hw1, hb1, hs1, hk1⟩ := box1 w #[.string t] 9
  have HK1 := hid hk1
  have hlw := Low.keep0 hk1
  have HI := hid (idx_nam l q qc zs lb w.heap.size t p cap w1 hl hz (IP.mono (IP.low hf hlw) hk1.size) (SP.mono (SP.low hs hlw) hk1.size) ((hlw.cell (o := 0) (World.block_lt_of_cell? w _ hc)).trans hc) (cell_of hb1 (by rfl)))
  have o1 : w1.cell? ⟨ob, 0, none⟩ = some (.slice p zs.length cap) := (hlw.cell (o := 0) (World.block_lt_of_cell? w _ ho)).trans ho
  have HP : Hid (plcS l zs t = idxI (fun i => decide (nmS l i = t)) zs) := hid rfl
  clear hb1 hs1 hk1 hf hs hc ho hlw hl hz
  generalize idxI (fun i => decide (nmS l i = t)) zs = z at *
  go_enter Try.func52, Try.ntmps52
  go_upto_region 1 with fail
  rw [← hw1]
  clear hw1
  generalize w.heap.size = nb at *
  go_wp2_with fail
  refine HI.out.mono ?_
  rintro r w2 ⟨rfl, hk2⟩
  have HK2 := hid (HK1.out.trans hk2)
  clear hk2
  go_wp2
  go_ret
  exact ⟨by rw [HP.out]; rfl, HK2.out⟩

/-- Whether one name stands ahead of another. -/
def aheadB (l : List VSys) (zs : List Int) (a b : ByteArray) : Bool := !zs.any (outB l.length) && decide (0 ≤ plcS l (zs.map Int.toNat) a ∧ 0 ≤ plcS l (zs.map Int.toNat) b ∧ plcS l (zs.map Int.toNat) a < plcS l (zs.map Int.toNat) b)
set_option maxRecDepth 20000 in
set_option maxHeartbeats 4000000 in
theorem sd_ahead (l : List VSys) (q : Option Addr) (qc : Nat) (zs : List Int) (p : Option Addr) (cap : Nat) (a b : ByteArray) (w : World) (hl : zs.length ≤ 65536) (hf : IP w w.heap.size p zs) (hs : SP w w.heap.size q l) :
    Calls Try.prog 27 #[.slice q l.length qc, .slice p zs.length cap, .string a, .string b] w fun r w' => r = .returned (.bool (aheadB l zs a b)) ∧ Keep (fun _ => False) w w' := by
  obtain ⟨w1, hw1, hb1, hb2, hs1, hk1⟩ := box2 w #[.slice q l.length qc] #[.slice p zs.length cap] 37 24
  have HK1 := hid hk1
  have HIP : Hid (∀ wy, Keep (fun _ => False) w1 wy → IP wy wy.heap.size p zs) := hid (fun wy hk => IP.mono (IP.low hf (Low.keep0 (hk1.trans hk))) (hk1.trans hk).size)
  have HSP : Hid (∀ wy, Keep (fun _ => False) w1 wy → SP wy wy.heap.size q l) := hid (fun wy hk => SP.mono (SP.low hs (Low.keep0 (hk1.trans hk))) (hk1.trans hk).size)
  have HC : Hid (∀ wy, Keep (fun _ => False) w1 wy → wy.cell? ⟨w.heap.size, 0, none⟩ = some (.slice q l.length qc) ∧ wy.cell? ⟨w.heap.size + 1, 0, none⟩ = some (.slice p zs.length cap)) := hid (fun wy hk => ⟨cell_of (hk.get hb1 id) (by rfl), cell_of (hk.get hb2 id) (by rfl)⟩)
  have HA : Hid (aheadB l zs a b = (!zs.any (outB l.length) && decide (0 ≤ plcS l (zs.map Int.toNat) a ∧ 0 ≤ plcS l (zs.map Int.toNat) b ∧ plcS l (zs.map Int.toNat) a < plcS l (zs.map Int.toNat) b))) := hid rfl
  generalize aheadB l zs a b = R at *
  clear hb1 hb2 hs1 hk1 hf hs
  go_enter Try.func27, Try.ntmps27
  go_upto_region 1 with fail
  rw [← hw1]
  clear hw1
  generalize w.heap.size + 1 = ob at *
  generalize w.heap.size = lb at *
  obtain ⟨c0, c1⟩ := HC.out _ (Keep.refl _ _)
  have HAN := hid (any_out zs l.length qc q lb p cap w1 hl (HIP.out _ (Keep.refl _ _)) c0)
  go_wp2_with fail
  refine HAN.out.mono ?_
  rintro r w_ ⟨rfl, rfl⟩
  cases hany : zs.any (outB l.length)
  rotate_left
  · have G : Hid (R = false) := hid (by rw [HA.out, hany]; rfl)
    clear hany
    go_wp2
    go_ret
    exact ⟨by rw [G.out]; rfl, HK1.out⟩
  have hzz : ∀ i ∈ zs, 0 ≤ i ∧ i < (l.length : Int) := fun i hi => by
    rw [List.any_eq_false] at hany
    have := hany i hi
    unfold outB at this
    rw [decide_eq_true_iff] at this
    omega
  have hmm : (zs.map Int.toNat).map (fun i : Nat => (i : Int)) = zs := by
    rw [List.map_map]
    conv => rhs; rw [← List.map_id zs]
    exact List.map_congr_left (fun i hi => Int.toNat_of_nonneg (hzz i hi).1)
  have hln : (zs.map Int.toNat).length = zs.length := List.length_map _
  have hlt : ∀ i ∈ zs.map Int.toNat, i < l.length := fun i hi => by
    obtain ⟨j, hj, rfl⟩ := List.mem_map.1 hi
    have := hzz j hj
    omega
  have HA2 : Hid (R = decide (0 ≤ plcS l (zs.map Int.toNat) a ∧ 0 ≤ plcS l (zs.map Int.toNat) b ∧ plcS l (zs.map Int.toNat) a < plcS l (zs.map Int.toNat) b)) := hid (by rw [HA.out, hany]; rfl)
  have HPL : Hid (∀ t wy, Keep (fun _ => False) w1 wy → Calls Try.prog 52 #[.string t, .pointer (some ⟨ob, 0, none⟩), .pointer (some ⟨lb, 0, none⟩)] wy fun r w' => r = .returned (.int .i64 (plcS l (zs.map Int.toNat) t)) ∧ Keep (fun _ => False) wy w') := hid (fun t wy hk => by
    obtain ⟨d0, d1⟩ := HC.out _ hk
    refine plc_clo l q qc (zs.map Int.toNat) lb ob t p cap wy (by rw [hln]; exact hl) hlt (by rw [hmm]; exact HIP.out _ hk) (HSP.out _ hk) d0 (by rw [hln]; exact d1))
  clear hany hzz hmm hln hlt HA HAN
  generalize zs.map Int.toNat = ns at *
  go_wp2_with fail
  refine (HPL.out a w1 (Keep.refl _ _)).mono ?_
  rintro r w2 ⟨rfl, hk2⟩
  have HK2 := hid hk2
  clear hk2 c0 c1
  go_wp2_with fail
  refine (HPL.out b w2 HK2.out).mono ?_
  rintro r w3 ⟨rfl, hk3⟩
  have HK3 := hid (HK1.out.trans (HK2.out.trans hk3))
  clear hk3
  generalize plcS l ns a = x at *
  generalize plcS l ns b = y at *
  by_cases h1 : 0 ≤ x
  rotate_left
  · have g1 : decide (0 ≤ x) = false := decide_eq_false h1
    have G : Hid (R = false) := hid (by rw [HA2.out, decide_eq_false (fun h => h1 h.1)])
    clear h1
    go_wp2
    go_ret
    exact ⟨by rw [G.out]; rfl, HK3.out⟩
  have g1 : decide (0 ≤ x) = true := decide_eq_true h1
  by_cases h2 : 0 ≤ y
  rotate_left
  · have g2 : decide (0 ≤ y) = false := decide_eq_false h2
    have G : Hid (R = false) := hid (by rw [HA2.out, decide_eq_false (fun h => h2 h.2.1)])
    clear h1 h2
    go_wp2
    go_ret
    exact ⟨by rw [G.out]; rfl, HK3.out⟩
  have g2 : decide (0 ≤ y) = true := decide_eq_true h2
  have G : Hid (R = decide (x < y)) := hid (by rw [HA2.out]; exact decide_eq_decide.2 ⟨fun h => h.2.2, fun h => ⟨h1, h2, h⟩⟩)
  clear h1 h2
  go_wp2
  go_ret
  exact ⟨by rw [G.out]; rfl, HK3.out⟩
end Go.Proofs.Ytcbboaoakgngkaa

namespace Go.Proofs.Ytcbboaoakgngkaa
open Go.ChangeShapes Go.WideShapes Go.ChangeAt Go.RowKit Go.Proofs.Heap Go.Proofs.Sch

section
variable {H : Type} {enc : TypeId × Value → H} {W : World}

theorem addr_add (b off i : Nat) : (⟨b, off, none⟩ : Addr).add i = ⟨b, off + i, none⟩ := by unfold Addr.add; split <;> simp_all

/-- A row of things that a law is handed. -/
theorem open_row {α : Type} {z : Nat} {t e : TypeId} (ht : Try.prog.underlying t = some (.slice e)) (hsz : Try.prog.cellsOf e = z) (at_ : World → Nat → Nat → α → Prop)
    (hel : ∀ (a : Addr) (n : Nat) (cs : List Value) (D : DataW H × List MemPlace), W.cells? 0 a z = some cs → DataW.trod enc Try.prog W 0 (fun _ => true) true n e cs = some D → a.spot = none ∧ a.block < W.heap.size ∧ ∃ x : α, at_ W a.block a.off x)
    {fuel : Nat} {cs : List Value} {x : DataW H × List MemPlace} (h : DataW.trod enc Try.prog W 0 (fun _ => true) true fuel t cs = some x) :
    ∃ (p : Option Addr) (c : Nat) (l : List α), cs = [.slice p l.length c] ∧ l.length ≤ c ∧ RowP z at_ W W.heap.size p l := by
  rcases Go.Deep.open_slice ht h with ⟨hcs, _⟩ | ⟨a, len, cap, m, n, D, Pl, hcs, _, hl, hm, hz', _, hcell⟩
  · exact ⟨none, 0, [], hcs, Nat.le_refl _, .inl rfl⟩
  · have hmc : m = cap := by simpa using hz'
    subst hmc
    rw [hsz] at hcell
    by_cases hl0 : len = 0
    · subst hl0
      exact ⟨some a, m, [], hcs, Nat.zero_le _, .inl rfl⟩
    · obtain ⟨b, off, spot⟩ := a
      have hblk : spot = none ∧ b < W.heap.size := by
        obtain ⟨cs', hc1, hc2⟩ := hcell 0 (by omega)
        obtain ⟨h1, h2, _⟩ := hel _ _ _ _ hc1 hc2
        refine ⟨?_, by simpa [Addr.add] using h2⟩
        simpa [Addr.add] using h1
      obtain ⟨rfl, hb⟩ := hblk
      have key : ∀ k, k ≤ len → ∃ l : List α, l.length = k ∧ ∀ i y, l[i]? = some y → at_ W b (off + i * z) y := by
        intro k
        induction k with
        | zero => exact fun _ => ⟨[], rfl, fun i y hy => by simp at hy⟩
        | succ k ih =>
          intro hk
          obtain ⟨l, hll, hla⟩ := ih (by omega)
          obtain ⟨cs', hc1, hc2⟩ := hcell k (by omega)
          obtain ⟨_, _, y, hy⟩ := hel _ _ _ _ hc1 hc2
          rw [addr_add] at hy
          refine ⟨l ++ [y], by simp [hll], fun i u hu => ?_⟩
          by_cases hik : i < k
          · rw [List.getElem?_append_left (by omega)] at hu
            exact hla i u hu
          · rw [List.getElem?_append_right (by omega)] at hu
            have : i = k := by
              have := (List.getElem?_eq_some_iff.1 hu).1
              simp at this
              omega
            subst this
            simp [hll] at hu
            subst hu
            exact hy
      obtain ⟨l, hll, hla⟩ := key len (Nat.le_refl _)
      subst hll
      exact ⟨_, m, l, hcs, hl, .inr ⟨b, off, rfl, hb, hla⟩⟩

theorem spot_of {a : Addr} {v : Value} (h : W.cell? (a.add 0) = some v) : a.spot = none ∧ a.block < W.heap.size := by
  obtain ⟨b, off, spot⟩ := a
  have h1 : spot = none := by simpa [Addr.add] using World.cell?_spot h
  subst h1
  rw [addr_add] at h
  exact ⟨rfl, World.block_lt_of_cell? W _ h⟩

set_option maxRecDepth 100000 in
theorem open_field (a : Addr) (n : Nat) (cs : List Value) (D : DataW H × List MemPlace) (hc : W.cells? 0 a 3 = some cs) (h : DataW.trod enc Try.prog W 0 (fun _ => true) true n 69 cs = some D) :
    a.spot = none ∧ a.block < W.heap.size ∧ ∃ x : Fld, FldAt W a.block a.off x := by
  have hs_int : Try.prog.cellsOf 3 = 1 := by kernel_rfl
  have hs_string : Try.prog.cellsOf 9 = 1 := by kernel_rfl
  have hs_kind : Try.prog.cellsOf 67 = 1 := by kernel_rfl
  obtain ⟨_, hlen, hat⟩ := World.cells?_some hc
  obtain ⟨y0, y1, y2, n', _, _, t0, t1, t2⟩ := Go.Deep.trod_struct3 Try.underlying69 h
  match cs, hlen with
  | [u0, u1, u2], _ =>
    have g0 := hat 0 (by omega)
    have g1 := hat 1 (by omega)
    have g2 := hat 2 (by omega)
    simp only [hs_int, hs_string, hs_kind, List.drop, List.take] at t0 t1 t2
    obtain ⟨K0, eK0, _, _⟩ := DataW.trod_string Try.underlying9 t0
    obtain ⟨K1, eK1, _, _⟩ := DataW.trod_int Try.underlying67 t1
    obtain ⟨K2, eK2, _, _⟩ := DataW.trod_int Try.underlying3 t2
    simp at eK0 eK1 eK2
    subst eK0; subst eK1; subst eK2
    obtain ⟨h1, h2⟩ := spot_of g0
    obtain ⟨b, off, spot⟩ := a
    simp only at h1 h2
    subst h1
    rw [addr_add] at g0 g1 g2
    exact ⟨rfl, h2, ⟨K0, K1, K2⟩, g0, g1, g2⟩

set_option maxRecDepth 100000 in
theorem open_fields {fuel : Nat} {cs : List Value} {x : DataW H × List MemPlace} (h : DataW.trod enc Try.prog W 0 (fun _ => true) true fuel 70 cs = some x) :
    ∃ (p : Option Addr) (c : Nat) (l : List Fld), cs = [.slice p l.length c] ∧ l.length ≤ c ∧ FP W W.heap.size p l :=
  open_row Try.underlying70 (by kernel_rfl) FldAt (fun a n cs D hc h => open_field a n cs D hc h) h

set_option maxRecDepth 100000 in
theorem open_comp (a : Addr) (n : Nat) (cs : List Value) (D : DataW H × List MemPlace) (hc : W.cells? 0 a 3 = some cs) (h : DataW.trod enc Try.prog W 0 (fun _ => true) true n 72 cs = some D) :
    a.spot = none ∧ a.block < W.heap.size ∧ ∃ x : Cmp, CmpAt W.heap.size W a.block a.off x := by
  have hs_int : Try.prog.cellsOf 3 = 1 := by kernel_rfl
  have hs_string : Try.prog.cellsOf 9 = 1 := by kernel_rfl
  have hs_fields : Try.prog.cellsOf 70 = 1 := by kernel_rfl
  obtain ⟨_, hlen, hat⟩ := World.cells?_some hc
  obtain ⟨y0, y1, y2, n', _, _, t0, t1, t2⟩ := Go.Deep.trod_struct3 Try.underlying72 h
  match cs, hlen with
  | [u0, u1, u2], _ =>
    have g0 := hat 0 (by omega)
    have g1 := hat 1 (by omega)
    have g2 := hat 2 (by omega)
    simp only [hs_int, hs_string, hs_fields, List.drop, List.take] at t0 t1 t2
    obtain ⟨K0, eK0, _, _⟩ := DataW.trod_int Try.underlying3 t0
    obtain ⟨K1, eK1, _, _⟩ := DataW.trod_string Try.underlying9 t1
    obtain ⟨p, c, l, eK2, hlc, hfp⟩ := open_fields t2
    simp at eK0 eK1 eK2
    subst eK0; subst eK1; subst eK2
    obtain ⟨h1, h2⟩ := spot_of g0
    obtain ⟨b, off, spot⟩ := a
    simp only at h1 h2
    subst h1
    rw [addr_add] at g0 g1 g2
    exact ⟨rfl, h2, ⟨K0, K1, l⟩, g0, g1, p, c, g2, hlc, hfp⟩

set_option maxRecDepth 100000 in
theorem open_comps {fuel : Nat} {cs : List Value} {x : DataW H × List MemPlace} (h : DataW.trod enc Try.prog W 0 (fun _ => true) true fuel 34 cs = some x) :
    ∃ (p : Option Addr) (c : Nat) (l : List Cmp), cs = [.slice p l.length c] ∧ l.length ≤ c ∧ CP W W.heap.size p l :=
  open_row Try.underlying34 (by kernel_rfl) (CmpAt W.heap.size) (fun a n cs D hc h => open_comp a n cs D hc h) h

set_option maxRecDepth 100000 in
/-- A schema that a law is handed. -/
theorem open_schema {v : Value} {r : Reach} {b : Nat} (hv : Value.okWide Try.prog W r b 36 v) {fuel : Nat} {x : DataW H × List MemPlace} (h : DataW.trod enc Try.prog W 0 (fun _ => true) true fuel 36 v.cells.toList = some x) :
    ∃ (k : Int) (p : Option Addr) (c : Nat) (l : List Cmp), v = .agg #[.int .i64 k, .slice p l.length c] ∧ l.length ≤ c ∧ CP W W.heap.size p l := by
  have hs_int : Try.prog.cellsOf 3 = 1 := by kernel_rfl
  have hs_comps : Try.prog.cellsOf 34 = 1 := by kernel_rfl
  have hs : Try.prog.cellsOf 36 = 2 := by kernel_rfl
  unfold Value.okWide at hv
  rw [Try.underlying36] at hv
  obtain ⟨cs, rfl, hsz, _⟩ := hv
  rw [hs] at hsz
  obtain ⟨⟨u0, u1, rfl⟩⟩ : Nonempty (∃ u0 u1, cs = #[u0, u1]) := by
    obtain ⟨l⟩ := cs
    match l, hsz with
    | [u0, u1], _ => exact ⟨u0, u1, rfl⟩
  obtain ⟨y0, y1, n', _, _, t0, t1⟩ := trod_struct2 Try.underlying36 h
  simp only [Value.cells, hs_int, hs_comps, List.drop, List.take] at t0 t1
  obtain ⟨K0, eK0, _, _⟩ := DataW.trod_int Try.underlying3 t0
  obtain ⟨p, c, l, eK1, hlc, hcp⟩ := open_comps t1
  simp at eK0 eK1
  subst eK0; subst eK1
  exact ⟨K0, p, c, l, rfl, hlc, hcp⟩
end
end Go.Proofs.Ytcbboaoakgngkaa

namespace Go.Proofs.Ytcbboaoakgngkaa
open Go.RowKit Go.Proofs.Heap Go.Proofs.Sch

def KA : List VOp := [⟨1, 0, 0, 0, 1⟩, ⟨17, 0, 0, 0, 3⟩, ⟨14, 0, 0, 0, 0⟩]
def KB : List VOp := [⟨1, 0, 0, 0, 0⟩, ⟨16, 0, 0, 0, 3⟩, ⟨1, 0, 0, 0, 0⟩, ⟨13, 0, 0, 0, 0⟩, ⟨23, 0, 0, 0, 0⟩]
def CA : List Cmp := [⟨1, ⟨#[97]⟩, [⟨⟨#[120]⟩, 6, 1⟩, ⟨⟨#[114]⟩, 10, 1⟩]⟩]
def KC : List VOp := [⟨2, 1, 1, 0, 0⟩]
def KD : List VOp := [⟨2, 1, 0, 0, 0⟩]
def YA : VSys := ⟨⟨#[97]⟩, 0, [], 2, 0, KC⟩
def YB : VSys := ⟨⟨#[97]⟩, 0, [], 0, 0, KD⟩
def YC : VSys := ⟨⟨#[97]⟩, 0, [], 0, 0, []⟩
theorem va1 : depthsE KA = 7 := by decide +kernel
theorem va2 : depthsL KA = [] := by decide +kernel
theorem va3 : depthsE KB = 0 := by decide +kernel
theorem va4 : depthsL KB = [0, 1, -1, 1, 2, -1] := by decide +kernel
theorem va5 : verC 1 CA YA = 8 := by decide +kernel
theorem va6 : verC 1 CA YB = 6 := by decide +kernel
theorem va7 : allC 1 CA [YC, YC] = (1, 1) := by decide +kernel
theorem va8 : reachedN [] = 1 := by decide +kernel
theorem va9 : Small CA := ⟨by decide, fun c hc => by simp [CA] at hc; subst hc; decide⟩

set_option maxRecDepth 20000 in
set_option maxHeartbeats 16000000 in
theorem awake_true (w : World) : Calls Try.prog 9 #[] w fun r w' => r = .returned (.bool true) ∧ Keep (fun _ => False) w w' := by
  obtain ⟨w1, hw1, hb1, hs1, hk1⟩ := box1 w #[.int .i64 1, .int .i64 0, .int .i64 0, .int .i64 0, .int .i64 1, .int .i64 17, .int .i64 0, .int .i64 0, .int .i64 0, .int .i64 3, .int .i64 14, .int .i64 0, .int .i64 0, .int .i64 0, .int .i64 0] 54
  have HK1 := hid hk1
  have HV1 : Hid (VP w1 w1.heap.size (some ⟨w.heap.size, 0, none⟩) KA) := hid (by
    refine .inr ⟨_, 0, rfl, lt_of_heap hb1, fun i x hx => ?_⟩
    match i, hx with
    | 0, hx => injection hx with hx; subst hx; exact ⟨cell_of hb1 (by rfl), cell_of hb1 (by rfl), cell_of hb1 (by rfl), cell_of hb1 (by rfl), cell_of hb1 (by rfl)⟩
    | 1, hx => injection hx with hx; subst hx; exact ⟨cell_of hb1 (by rfl), cell_of hb1 (by rfl), cell_of hb1 (by rfl), cell_of hb1 (by rfl), cell_of hb1 (by rfl)⟩
    | 2, hx => injection hx with hx; subst hx; exact ⟨cell_of hb1 (by rfl), cell_of hb1 (by rfl), cell_of hb1 (by rfl), cell_of hb1 (by rfl), cell_of hb1 (by rfl)⟩
    | _ + 3, hx => simp [KA] at hx)
  clear hb1 hk1 hs1
  go_enter Try.func9, Try.ntmps9
  go_wp2_with fail
  rw [← hw1]
  clear hw1
  have hc := verify_depths KA (some ⟨w.heap.size, 0, none⟩) 3 w1 HV1.out
  rw [va1, va2] at hc
  refine hc.mono ?_
  clear hc
  rintro r w2 ⟨pa, qa, rfl, hox, hk2⟩
  clear hox
  have HK2 := hid (HK1.out.trans hk2)
  clear hk2 HV1
  obtain ⟨w3, hw3, hb3, hs3, hk3⟩ := box1 w2 #[.int .i64 1, .int .i64 0, .int .i64 0, .int .i64 0, .int .i64 0, .int .i64 16, .int .i64 0, .int .i64 0, .int .i64 0, .int .i64 3, .int .i64 1, .int .i64 0, .int .i64 0, .int .i64 0, .int .i64 0, .int .i64 13, .int .i64 0, .int .i64 0, .int .i64 0, .int .i64 0, .int .i64 23, .int .i64 0, .int .i64 0, .int .i64 0, .int .i64 0] 54
  have HK3 := hid (HK2.out.trans hk3)
  have HV3 : Hid (VP w3 w3.heap.size (some ⟨w2.heap.size, 0, none⟩) KB) := hid (by
    refine .inr ⟨_, 0, rfl, lt_of_heap hb3, fun i x hx => ?_⟩
    match i, hx with
    | 0, hx => injection hx with hx; subst hx; exact ⟨cell_of hb3 (by rfl), cell_of hb3 (by rfl), cell_of hb3 (by rfl), cell_of hb3 (by rfl), cell_of hb3 (by rfl)⟩
    | 1, hx => injection hx with hx; subst hx; exact ⟨cell_of hb3 (by rfl), cell_of hb3 (by rfl), cell_of hb3 (by rfl), cell_of hb3 (by rfl), cell_of hb3 (by rfl)⟩
    | 2, hx => injection hx with hx; subst hx; exact ⟨cell_of hb3 (by rfl), cell_of hb3 (by rfl), cell_of hb3 (by rfl), cell_of hb3 (by rfl), cell_of hb3 (by rfl)⟩
    | 3, hx => injection hx with hx; subst hx; exact ⟨cell_of hb3 (by rfl), cell_of hb3 (by rfl), cell_of hb3 (by rfl), cell_of hb3 (by rfl), cell_of hb3 (by rfl)⟩
    | 4, hx => injection hx with hx; subst hx; exact ⟨cell_of hb3 (by rfl), cell_of hb3 (by rfl), cell_of hb3 (by rfl), cell_of hb3 (by rfl), cell_of hb3 (by rfl)⟩
    | _ + 5, hx => simp [KB] at hx)
  clear hb3 hk3 hs3
  go_wp2_with fail
  rw [← hw3]
  clear hw3
  have hc := verify_depths KB (some ⟨w2.heap.size, 0, none⟩) 5 w3 HV3.out
  rw [va3, va4] at hc
  refine hc.mono ?_
  clear hc
  rintro r w4 ⟨pb, qb, rfl, hown, hk4⟩
  obtain ⟨gd, rfl⟩ := owns_some hown (by decide)
  have HK4 := hid (HK3.out.trans hk4)
  have HD : Hid (∀ wy, Keep (fun _ => False) w4 wy → wy.cell? ⟨gd, 0, none⟩ = some (.int .i64 0) ∧ wy.cell? ⟨gd, 1, none⟩ = some (.int .i64 1) ∧ wy.cell? ⟨gd, 2, none⟩ = some (.int .i64 (-1)) ∧ wy.cell? ⟨gd, 3, none⟩ = some (.int .i64 1) ∧ wy.cell? ⟨gd, 4, none⟩ = some (.int .i64 2) ∧ wy.cell? ⟨gd, 5, none⟩ = some (.int .i64 (-1))) := hid (fun wy hk => by
    have ho := owns_keep (w' := wy) hown (fun k hk' => hk.block k (hown.lt k hk').2 id)
    exact ⟨owns_cell (k := 0) ho (by decide), owns_cell (k := 1) ho (by decide), owns_cell (k := 2) ho (by decide), owns_cell (k := 3) ho (by decide), owns_cell (k := 4) ho (by decide), owns_cell (k := 5) ho (by decide)⟩)
  clear hk4 hown HV3
  obtain ⟨w5, hw5, hb5, hb6, hb7, hs5, hk5⟩ := box3 w4 #[.string ⟨#[120]⟩, .int .i64 6, .int .i64 1, .string ⟨#[114]⟩, .int .i64 10, .int .i64 1] #[.int .i64 1, .string ⟨#[97]⟩, .slice (some ⟨w4.heap.size, 0, none⟩) 2 2] #[.int .i64 1, .slice (some ⟨w4.heap.size + 1, 0, none⟩) 1 1] 69 72 36
  have HT5 : Hid (Keep (fun _ => False) w4 w5) := hid hk5
  have HCA : Hid (∀ wy, Keep (fun _ => False) w5 wy → CP wy wy.heap.size (some ⟨w4.heap.size + 1, 0, none⟩) CA) := hid (fun wy hk => by
    have k5 := hk.get hb5 id
    have k6 := hk.get hb6 id
    refine .inr ⟨_, 0, rfl, lt_of_heap k6, fun i x hx => ?_⟩
    match i, hx with
    | 0, hx =>
      injection hx with hx; subst hx
      refine ⟨cell_of k6 (by rfl), cell_of k6 (by rfl), _, 2, cell_of k6 (by rfl), by decide, .inr ⟨_, 0, rfl, lt_of_heap k5, fun i x hx => ?_⟩⟩
      match i, hx with
      | 0, hx => injection hx with hx; subst hx; exact ⟨cell_of k5 (by rfl), cell_of k5 (by rfl), cell_of k5 (by rfl)⟩
      | 1, hx => injection hx with hx; subst hx; exact ⟨cell_of k5 (by rfl), cell_of k5 (by rfl), cell_of k5 (by rfl)⟩
      | _ + 2, hx => simp at hx
    | _ + 1, hx => simp [CA] at hx)
  have HS : Hid (∀ wy, Keep (fun _ => False) w5 wy → wy.cell? ⟨w4.heap.size + 1 + 1, 0, none⟩ = some (.int .i64 1) ∧ wy.cell? ⟨w4.heap.size + 1 + 1, 1, none⟩ = some (.slice (some ⟨w4.heap.size + 1, 0, none⟩) 1 1)) := hid (fun wy hk => ⟨cell_of (hk.get hb7 id) (by rfl), cell_of (hk.get hb7 id) (by rfl)⟩)
  clear hb5 hb6 hb7 hs5 hk5
  go_upto_region 4 with fail
  rw [← hw5]
  clear hw5
  generalize w4.heap.size = fb at *
  obtain ⟨s0, s1⟩ := HS.out _ (Keep.refl _ _)
  obtain ⟨w6, hw6, hb6, hs6, hk6⟩ := box1 w5 #[.int .i64 2, .int .i64 1, .int .i64 1, .int .i64 0, .int .i64 0] 54
  have HK6 := hid hk6
  have HV6 : Hid (VP w6 w6.heap.size (some ⟨w5.heap.size, 0, none⟩) KC) := hid (by
    refine .inr ⟨_, 0, rfl, lt_of_heap hb6, fun i x hx => ?_⟩
    match i, hx with
    | 0, hx => injection hx with hx; subst hx; exact ⟨cell_of hb6 (by rfl), cell_of hb6 (by rfl), cell_of hb6 (by rfl), cell_of hb6 (by rfl), cell_of hb6 (by rfl)⟩
    | _ + 1, hx => simp [KC] at hx)
  clear hb6 hk6 hs6
  go_wp2_with fail
  rw [← hw6]
  clear hw6
  have hc := verify_check 1 CA (some ⟨fb + 1, 0, none⟩) 1 YA none 0 (some ⟨w5.heap.size, 0, none⟩) 1 w6 (by decide) (by decide) (by decide) va9 (HCA.out _ HK6.out) (.inl rfl) HV6.out
  rw [va5] at hc
  refine hc.mono ?_
  clear hc
  rintro r w7 ⟨rfl, hk7⟩
  have HK7 := hid (HK6.out.trans hk7)
  clear hk7 HV6 s0 s1
  obtain ⟨s0, s1⟩ := HS.out _ HK7.out
  obtain ⟨w8, hw8, hb8, hs8, hk8⟩ := box1 w7 #[.int .i64 2, .int .i64 1, .int .i64 0, .int .i64 0, .int .i64 0] 54
  have HK8 := hid (HK7.out.trans hk8)
  have HV8 : Hid (VP w8 w8.heap.size (some ⟨w7.heap.size, 0, none⟩) KD) := hid (by
    refine .inr ⟨_, 0, rfl, lt_of_heap hb8, fun i x hx => ?_⟩
    match i, hx with
    | 0, hx => injection hx with hx; subst hx; exact ⟨cell_of hb8 (by rfl), cell_of hb8 (by rfl), cell_of hb8 (by rfl), cell_of hb8 (by rfl), cell_of hb8 (by rfl)⟩
    | _ + 1, hx => simp [KD] at hx)
  clear hb8 hk8 hs8
  go_wp2_with fail
  rw [← hw8]
  clear hw8
  have hc := verify_check 1 CA (some ⟨fb + 1, 0, none⟩) 1 YB none 0 (some ⟨w7.heap.size, 0, none⟩) 1 w8 (by decide) (by decide) (by decide) va9 (HCA.out _ HK8.out) (.inl rfl) HV8.out
  rw [va6] at hc
  refine hc.mono ?_
  clear hc
  rintro r w9 ⟨rfl, hk9⟩
  have HK9 := hid (HK8.out.trans hk9)
  clear hk9 HV8 s0 s1
  obtain ⟨s0, s1⟩ := HS.out _ HK9.out
  obtain ⟨wA, hwA, hbA, hsA, hkA⟩ := box1 w9 #[.string ⟨#[97]⟩, .int .i64 0, .slice none 0 0, .int .u32 0, .int .u32 0, .slice none 0 0, .string ⟨#[97]⟩, .int .i64 0, .slice none 0 0, .int .u32 0, .int .u32 0, .slice none 0 0] 43
  have HKA := hid (HK9.out.trans hkA)
  have HSA : Hid (SP wA wA.heap.size (some ⟨w9.heap.size, 0, none⟩) [YC, YC]) := hid (by
    refine .inr ⟨_, 0, rfl, lt_of_heap hbA, fun i x hx => ?_⟩
    match i, hx with
    | 0, hx => injection hx with hx; subst hx; exact ⟨cell_of hbA (by rfl), cell_of hbA (by rfl), cell_of hbA (by rfl), cell_of hbA (by rfl), by decide, by decide, none, 0, none, 0, cell_of hbA (by rfl), cell_of hbA (by rfl), by decide, .inl rfl, .inl rfl⟩
    | 1, hx => injection hx with hx; subst hx; exact ⟨cell_of hbA (by rfl), cell_of hbA (by rfl), cell_of hbA (by rfl), cell_of hbA (by rfl), by decide, by decide, none, 0, none, 0, cell_of hbA (by rfl), cell_of hbA (by rfl), by decide, .inl rfl, .inl rfl⟩
    | _ + 2, hx => simp at hx)
  clear hbA hkA hsA
  go_wp2_with fail
  rw [← hwA]
  clear hwA
  have hc := verify_all 1 CA (some ⟨fb + 1, 0, none⟩) 1 [YC, YC] (some ⟨w9.heap.size, 0, none⟩) 2 wA va9 (fun s hs => by simp at hs; subst hs; decide) (HCA.out _ HKA.out) HSA.out
  rw [va7] at hc
  refine hc.mono ?_
  clear hc
  rintro r wB ⟨rfl, hkB⟩
  have HKB := hid (HKA.out.trans hkB)
  clear hkB HSA s0 s1
  obtain ⟨d0, d1, d2, d3, d4, d5⟩ := HD.out _ (HT5.out.trans HKB.out)
  go_wp2_with fail
  have hc := verify_reached [] none 0 wB (.inl rfl)
  rw [va8] at hc
  refine hc.mono ?_
  clear hc
  rintro r wC ⟨rfl, hkC⟩
  have HKC := hid (HT5.out.trans (HKB.out.trans hkC))
  clear hkC
  go_wp2
  go_ret
  exact ⟨rfl, HK4.out.trans HKC.out⟩
end Go.Proofs.Ytcbboaoakgngkaa

namespace Go.Proofs.Ytcbboaoakgngkaa
open Go.RowKit Go.Proofs.Heap Go.Proofs.Sch

theorem depths_zero {code : List VOp} (h : depthsE code = 0) : codeC code = 0 ∧ KnowV code (depthsL code) ∧ ClosedV code (depthsL code) := by
  unfold depthsE at h
  by_cases hc : codeC code = 0
  · rw [if_pos hc] at h
    refine ⟨hc, ?_⟩
    unfold depthsL
    rw [if_pos hc]
    rcases depths_spec (code_in hc) with ⟨h1, _⟩ | ⟨E, h1, hk, hcl⟩
    · rw [h1] at h; simp at h
    · rw [h1]; exact ⟨hk, hcl⟩
  · rw [if_neg hc] at h; omega
theorem depths_err {code : List VOp} (h : depthsE code ≠ 0) : depthsL code = [] := by
  unfold depthsE at h
  unfold depthsL
  by_cases hc : codeC code = 0
  · rw [if_pos hc] at h ⊢
    cases hd : depthsV code
    · rfl
    · rw [hd] at h; simp at h
  · rw [if_neg hc]
/-- A row of bools. -/
def BoolAt (w : World) (b o : Nat) (x : Bool) : Prop := w.cell? ⟨b, o, none⟩ = some (.bool x)
abbrev BP := RowP 1 BoolAt
theorem BP.low {w w' : World} {B : Nat} {p : Option Addr} {l : List Bool} (h : BP w B p l) (hl : Low B w w') : BP w' B p l :=
  RowP.imp h (Nat.le_refl _) fun b o x hb hx => by unfold BoolAt at *; rw [hl.cell hb]; exact hx
theorem BP.at {w : World} {B : Nat} {p : Option Addr} {l : List Bool} (h : BP w B p l) {i : Nat} {s : Bool} (hi : l[i]? = some s) : ∃ b off, p = some ⟨b, off, none⟩ ∧ b < B ∧ w.cell? ⟨b, off + i, none⟩ = some (.bool s) := by
  rcases h with rfl | ⟨b, off, hp, hb, hc⟩
  · simp at hi
  · have := hc i s hi
    rw [Nat.mul_one] at this
    exact ⟨b, off, hp, hb, this⟩
/-- Where a walk stands. -/
def WkR (n : Nat) (D : List Int) (a d s : Value) (k : Nat) : Prop := ∃ at_ dn sk : Nat, a = iV at_ ∧ d = iV dn ∧ s = iV sk ∧ at_ ≤ n ∧ D[at_]? = some (dn : Int) ∧ dn ≤ 16 ∧ sk ≤ k

set_option maxRecDepth 20000 in
set_option maxHeartbeats 16000000 in
theorem walks_walk (q : Option Addr) (c : Nat) (code : List VOp) (tq : Option Addr) (tc : Nat) (turns : List Bool) (w : World) (hv : VP w w.heap.size q code) (ht : BP w w.heap.size tq turns) :
    Calls Try.prog 5 #[.slice q code.length c, .slice tq turns.length tc] w fun r w' => r = .returned (.bool true) ∧ Below w.heap.size w w' := by
  have HV : Hid (∀ wy, Keep (fun _ => False) w wy → VP wy w.heap.size q code) := hid (fun wy hk => VP.low hv (Low.keep0 hk))
  have HT : Hid (∀ wy, Keep (fun _ => False) w wy → BP wy w.heap.size tq turns) := hid (fun wy hk => BP.low ht (Low.keep0 hk))
  clear hv ht
  go_enter Try.func5, Try.ntmps5
  go_wp2_with fail
  refine (awake_true _).mono ?_
  rintro r w1 ⟨rfl, hk1⟩
  have HK1 := hid hk1
  clear hk1
  by_cases h80 : 80 < code.length
  · have g0 : (80 : Int) < (code.length : Int) := by omega
    go_wp2
    go_ret
    exact ⟨rfl, HK1.out.below⟩
  have g0 : ¬ (80 : Int) < (code.length : Int) := by omega
  have HVM := hid (VP.mono (HV.out _ HK1.out) HK1.out.size)
  go_wp2_with fail
  refine (verify_depths code q c _ HVM.out).mono ?_
  rintro r w2 ⟨da, dc, rfl, hown, hk2⟩
  have HO := hid hown; have HK2 := hid (HK1.out.trans hk2)
  clear hown hk2 g0
  by_cases he : depthsE code = 0
  rotate_left
  · have hL := depths_err he
    have hR : reachedN code = 0 := by unfold reachedN; rw [hL]; rfl
    have HR := hid (verify_reached code q c w2 (VP.mono (HV.out _ HK2.out) HK2.out.size))
    rw [hR] at HR
    rw [hL]
    generalize depthsE code = e at *
    have g1 : ((e : Int) != 0) = true := by rw [bne, beq_eq_false_iff_ne.2 (show (e : Int) ≠ 0 by omega)]; rfl
    have g2 : (e != 0) = true := by rw [bne, beq_eq_false_iff_ne.2 he]; rfl
    clear he hL hR
    go_wp2_with fail
    refine HR.out.mono ?_
    rintro r w3 ⟨rfl, hk3⟩
    have HK3 := hid (HK2.out.trans hk3)
    clear hk3
    go_wp2
    go_ret
    exact ⟨rfl, HK3.out.below⟩
  obtain ⟨hcc, hkn, hcl⟩ := depths_zero he
  rw [he]
  have HCZ := hid (code_zero hcc)
  have HKN := hid hkn; have HCL := hid hcl
  have HDL : Hid ((depthsL code).length = code.length + 1) := hid hkn.len
  generalize depthsL code = D at *
  obtain ⟨gd, rfl⟩ := owns_some HO.out (by have := HDL.out; omega)
  clear he hcc hkn hcl
  have HCELL : Hid (∀ wy, Keep (fun _ => False) w2 wy → ∀ (i : Nat) (v : Int), D[i]? = some v → wy.cell? ⟨gd, i, none⟩ = some (.int .i64 v)) := hid (fun wy hk i v hi => by
    have ho := owns_keep (w' := wy) HO.out (fun k hk' => hk.block k (HO.out.lt k hk').2 id)
    rw [owns_cell ho (List.getElem?_eq_some_iff.1 hi).1, List.getElem?_map, hi]; rfl)
  go_wp2_with fail
  go_loopw [7, 8, 9, 10, 11] (fun a d s i _ wr => ∃ k : Nat, k ≤ 300 ∧ i = iV k ∧ WkR code.length D a d s k ∧ Keep (fun _ => False) w2 wr) (fun _ _ _ i _ _ => 301 - (intOf i).toNat)
  case atStart => exact ⟨0, by omega, rfl, ⟨0, 0, 0, rfl, rfl, rfl, by omega, HKN.out.zero, by omega, by omega⟩, Keep.refl _ _⟩
  case round =>
    obtain ⟨k, hk, rfl, ⟨at_, dn, sk, rfl, rfl, rfl, hal, hDa, hd16, hsk⟩, hkr⟩ := hrel
    have HKR := hid hkr; have HDA := hid hDa
    clear hkr hDa
    by_cases hlt : k < 300
    · have hltI : (k : Int) < 300 := by omega
      have HD16 := hid hd16; have HSK := hid hsk
      have hdl : at_ < D.length := by have := HDL.out; omega
      have d0 := HCELL.out _ HKR.out at_ _ HDA.out
      have hin : (0 : Int) ≤ (at_ : Int) ∧ (at_ : Int) < (D.length : Int) := ⟨by omega, by omega⟩
      have g1 : ((dn : Int) != (dn : Int)) = false := by simp
      have g2 : (dn != dn) = false := by simp
      have g3 : decide ((16 : Int) < (dn : Int)) = false := decide_eq_false (by omega)
      have g4 : decide (16 < dn) = false := decide_eq_false (by omega)
      by_cases hend : at_ = code.length
      · subst hend
        have g5 : ((code.length : Int) == (code.length : Int)) = true := by simp
        have g6 : (code.length == code.length) = true := by simp
        go_wp2
        go_ret
        exact ⟨rfl, (HK2.out.trans HKR.out).below⟩
      have hatl : at_ < code.length := by omega
      have g5 : ((at_ : Int) == (code.length : Int)) = false := beq_eq_false_iff_ne.2 (by omega)
      have g6 : (at_ == code.length) = false := beq_eq_false_iff_ne.2 hend
      have hin2 : (0 : Int) ≤ (at_ : Int) ∧ (at_ : Int) < (code.length : Int) := ⟨by omega, by omega⟩
      obtain ⟨x, hx⟩ : ∃ x, code[at_]? = some x := ⟨code[at_], by simp [hatl]⟩
      obtain ⟨b, off, rfl, hb, x0, x1, x2, x3, x4⟩ := VP.at (HV.out _ (HK2.out.trans HKR.out)) hx
      by_cases h23 : x.code = 23
      · have H23 := hid h23
        have g7 : (x.code == 23) = true := beq_iff_eq.2 h23
        clear h23
        go_wp2
        go_ret
        exact ⟨rfl, (HK2.out.trans HKR.out).below⟩
      have g7 : (x.code == 23) = false := beq_eq_false_iff_ne.2 h23
      have hpt : putsV x.code ≤ 2 := by
        unfold putsV; split
        · omega
        · split <;> omega
      have HPT := hid hpt
      clear hpt
      have hdone := HCL.out at_ x dn hx HDA.out
      have hj := good_jump (HCZ.out.2 x (List.mem_of_getElem? hx))
      have HNX : Hid (∀ j, j ∈ waysV at_ x → D[j]? = some ((nextV dn x : Nat) : Int)) := hid hdone.2
      have HTK : Hid (takesV x.code ≤ dn) := hid hdone.1
      have HN16 : Hid (∀ j, j ∈ waysV at_ x → nextV dn x ≤ 16) := hid (fun j hj => by
        rcases HKN.out.seen j _ (hdone.2 j hj) with h | ⟨d, h1, h2, _⟩
        · omega
        · omega)
      have HWV : Hid (waysV at_ x = (if x.code = 16 ∨ x.code = 23 then [] else [at_ + 1]) ++ (if x.code = 16 ∨ x.code = 17 then [x.k.toNat] else [])) := hid rfl
      have HNV : Hid (nextV dn x = dn - takesV x.code + putsV x.code) := hid rfl
      have H23 := hid h23; have HJ := hid hj
      generalize waysV at_ x = ws at *
      generalize nextV dn x = nx at *
      clear hdone hj h23
      obtain ⟨w5, hw5, hb5, hs5, hk5⟩ := box1 wr (OC x) 54
      have HK5 := hid (HKR.out.trans hk5)
      have HXC : Hid (∀ wy, Keep (fun _ => False) w5 wy → wy.cell? ⟨wr.heap.size, 0, none⟩ = some (.int .i64 x.code) ∧ wy.cell? ⟨wr.heap.size, 1, none⟩ = some (.int .i64 x.a) ∧ wy.cell? ⟨wr.heap.size, 2, none⟩ = some (.int .i64 x.b) ∧ wy.cell? ⟨wr.heap.size, 3, none⟩ = some (.int .i64 x.c) ∧ wy.cell? ⟨wr.heap.size, 4, none⟩ = some (.int .i64 x.k)) := hid (fun wy hk =>
        ⟨cell_of (hk.get hb5 id) (by rfl), cell_of (hk.get hb5 id) (by rfl), cell_of (hk.get hb5 id) (by rfl), cell_of (hk.get hb5 id) (by rfl), cell_of (hk.get hb5 id) (by rfl)⟩)
      clear hx hb hb5 hs5 hk5
      go_upto_region 19 with fail
      rw [← hw5]
      clear hw5 x0 x1 x2 x3 x4 d0 g1 g2 g3 g4 g5 g6 g7 hin hin2
      generalize wr.heap.size = xb at *
      obtain ⟨y0, y1, y2, y3, y4⟩ := HXC.out _ (Keep.refl _ _)
      go_wp2_with fail
      refine (takes_op x _).mono ?_
      rintro r w6 ⟨rfl, hk6⟩
      have HK6 := hid hk6
      clear hk6 y0 y1 y2 y3 y4
      have HT' := hid (fun wy => takes_op x wy); have HP := hid (fun wy => puts_op x wy)
      generalize takesV x.code = tk at *
      generalize putsV x.code = pt at *
      have hdt : ¬ dn < tk := by have := HTK.out; omega
      have g1 : decide ((dn : Int) < (tk : Int)) = false := decide_eq_false (by omega)
      have g2 : decide (dn < tk) = false := decide_eq_false hdt
      go_upto_region 21 with fail
      clear g1 g2
      obtain ⟨y0, y1, y2, y3, y4⟩ := HXC.out _ HK6.out.drew
      refine Plan.wp_region_pl [(false, 0, []), (false, 1, []), (false, 4, []), (true, 2, [4, 0]), (false, 3, []), (true, 5, [3, 0]), (false, 6, []), (true, 7, [])] (by as_aux_lemma => kernel_rfl) (by as_aux_lemma => kernel_rfl) ?_
      iterate 3 (refine Plan.pl_st rfl ?_; go_big_quiet_step (fail); refine wpQuiet_nil ?_)
      refine Plan.pl_ac rfl ?_
      go_wp2_with fail
      refine (HT'.out _).mono ?_
      rintro r w7 ⟨rfl, hk7⟩
      have HK7 := hid (HK6.out.drew.trans hk7)
      clear hk7 y0 y1 y2 y3 y4
      obtain ⟨y0, y1, y2, y3, y4⟩ := HXC.out _ HK7.out
      go_wp2
      refine Plan.plQ_mk ?_ ?_
      · iterate 2 (refine Plan.chk_st rfl ?_ ?_; focus (go_big_quiet_step (fail); exact wpQuiet_nil rfl))
        exact Plan.chk_end
      obtain ⟨dm, hdm⟩ : ∃ dm : Nat, dn - tk = dm := ⟨_, rfl⟩
      have hsub : (dn : Int) - (tk : Int) = (dm : Int) := by omega
      iterate 1 (refine Plan.pl_st rfl ?_; go_big_quiet_step (fail); refine wpQuiet_nil ?_)
      refine Plan.pl_ac rfl ?_
      go_wp2_with fail
      refine (HP.out _).mono ?_
      rintro r w8 ⟨rfl, hk8⟩
      have HK8 := hid (HK7.out.trans hk8)
      clear hk8 y0 y1 y2 y3 y4
      go_wp2
      refine Plan.plQ_mk ?_ ?_
      · iterate 2 (refine Plan.chk_st rfl ?_ ?_; focus (go_big_quiet_step (fail); exact wpQuiet_nil rfl))
        exact Plan.chk_end
      have hadd : (dm : Int) + (pt : Int) = (nx : Int) := by have := HNV.out; omega
      have hnx : nx ≤ 18 := by have := HNV.out; have := HPT.out; omega
      iterate 1 (refine Plan.pl_st rfl ?_; go_big_quiet_step (fail); refine wpQuiet_nil ?_)
      refine Plan.pl_ac rfl ?_
      go_wp2
      refine Plan.plQ_mk Plan.chk_end ?_
      refine Plan.pl_end ?_
      clear hsub hadd hdm
      have HKW := hid (HK5.out.trans HK8.out)
      obtain ⟨y0, y1, y2, y3, y4⟩ := HXC.out _ HK8.out
      by_cases h16 : x.code = 16
      · have g1 : (x.code == 16) = true := beq_iff_eq.2 h16
        have g2 : (x.code == 17) = false := beq_eq_false_iff_ne.2 (by omega)
        obtain ⟨h3, h4⟩ := HJ.out (.inl h16)
        obtain ⟨kn, hkn⟩ := Int.eq_ofNat_of_zero_le h3
        have hm : kn ∈ ws := by rw [HWV.out, if_pos (.inl h16), if_pos (.inl h16), hkn]; simp
        have G : Hid (kn ≤ code.length ∧ D[kn]? = some (nx : Int) ∧ nx ≤ 16) := hid ⟨by omega, HNX.out _ hm, HN16.out _ hm⟩
        rw [hkn] at y4
        clear hkn h3 h4 hm h16
        go_wp2
        go_roundw
        case rel => exact ⟨k + 1, by omega, by go_num, ⟨kn, nx, sk, by go_num, by go_num, by go_num, G.out.1, G.out.2.1, G.out.2.2, by omega⟩, HKW.out⟩
        case measure => simp [intOf]; omega
      have g1 : (x.code == 16) = false := beq_eq_false_iff_ne.2 h16
      have hma : at_ + 1 ∈ ws := by rw [HWV.out, if_neg (by have := H23.out; omega)]; simp
      have G1 : Hid (at_ + 1 ≤ code.length ∧ D[at_ + 1]? = some (nx : Int) ∧ nx ≤ 16) := hid ⟨by omega, HNX.out _ hma, HN16.out _ hma⟩
      by_cases h17 : x.code = 17
      rotate_left
      · have g2 : (x.code == 17) = false := beq_eq_false_iff_ne.2 h17
        have G := G1
        clear h16 h17 hma
        go_wp2
        go_roundw
        case rel => exact ⟨k + 1, by omega, by go_num, ⟨at_ + 1, nx, sk, by go_num, by go_num, by go_num, G.out.1, G.out.2.1, G.out.2.2, by omega⟩, HKW.out⟩
        case measure => simp [intOf]; omega
      have g2 : (x.code == 17) = true := beq_iff_eq.2 h17
      obtain ⟨h3, h4⟩ := HJ.out (.inr h17)
      obtain ⟨kn, hkn⟩ := Int.eq_ofNat_of_zero_le h3
      have hm : kn ∈ ws := by rw [HWV.out, if_pos (show x.code = 16 ∨ x.code = 17 from .inr h17), hkn]; simp
      have G2 : Hid (kn ≤ code.length ∧ D[kn]? = some (nx : Int) ∧ nx ≤ 16) := hid ⟨by omega, HNX.out _ hm, HN16.out _ hm⟩
      rw [hkn] at y4
      clear hkn h3 h4 hm h16 h17 hma
      by_cases hts : sk < turns.length
      rotate_left
      · have g3 : decide ((sk : Int) < (turns.length : Int)) = false := decide_eq_false (by omega)
        have g4 : decide (sk < turns.length) = false := decide_eq_false hts
        have G := G1
        go_wp2
        go_roundw
        case rel => exact ⟨k + 1, by omega, by go_num, ⟨at_ + 1, nx, sk + 1, by go_num, by go_num, by go_num, G.out.1, G.out.2.1, G.out.2.2, by omega⟩, HKW.out⟩
        case measure => simp [intOf]; omega
      have g3 : decide ((sk : Int) < (turns.length : Int)) = true := decide_eq_true (by omega)
      have g4 : decide (sk < turns.length) = true := decide_eq_true hts
      have hin : (0 : Int) ≤ (sk : Int) ∧ (sk : Int) < (turns.length : Int) := ⟨by omega, by omega⟩
      obtain ⟨tb, htb⟩ : ∃ tb, turns[sk]? = some tb := ⟨turns[sk], by simp [hts]⟩
      obtain ⟨b2, off2, rfl, hb2, z0⟩ := BP.at (HT.out _ (HK2.out.trans HKW.out)) htb
      clear htb hb2
      cases tb
      · have G := G1
        go_wp2
        go_roundw
        case rel => exact ⟨k + 1, by omega, by go_num, ⟨at_ + 1, nx, sk + 1, by go_num, by go_num, by go_num, G.out.1, G.out.2.1, G.out.2.2, by omega⟩, HKW.out⟩
        case measure => simp [intOf]; omega
      · have G := G2
        go_wp2
        go_roundw
        case rel => exact ⟨k + 1, by omega, by go_num, ⟨kn, nx, sk + 1, by go_num, by go_num, by go_num, G.out.1, G.out.2.1, G.out.2.2, by omega⟩, HKW.out⟩
        case measure => simp [intOf]; omega
    · obtain rfl : k = 300 := by omega
      go_wp2
      go_ret
      exact ⟨rfl, (HK2.out.trans HKR.out).below⟩
end Go.Proofs.Ytcbboaoakgngkaa

namespace Go.Proofs.Ytcbboaoakgngkaa
open Go.ChangeShapes Go.WideShapes Go.ChangeAt Go.RowKit Go.Proofs.Heap Go.Proofs.Sch

section
variable {H : Type} {enc : TypeId × Value → H} {W : World}

theorem trod_struct5 {P : Program} {w : World} {base : Nat} {spare : Nat → Bool} {held : Bool} {t : TypeId} {f0 f1 f2 f3 f4 : Field} {fuel : Nat} {cs : List Value} {x : DataW H × List MemPlace} (ht : P.underlying t = some (.struct #[f0, f1, f2, f3, f4])) (h : DataW.trod enc P w base spare held fuel t cs = some x) :
    ∃ y0 y1 y2 y3 y4 n, DataW.trod enc P w base spare held n f0.type ((cs.drop f0.offset).take (P.cellsOf f0.type)) = some y0 ∧
      DataW.trod enc P w base spare held n f1.type ((cs.drop f1.offset).take (P.cellsOf f1.type)) = some y1 ∧ DataW.trod enc P w base spare held n f2.type ((cs.drop f2.offset).take (P.cellsOf f2.type)) = some y2 ∧
      DataW.trod enc P w base spare held n f3.type ((cs.drop f3.offset).take (P.cellsOf f3.type)) = some y3 ∧ DataW.trod enc P w base spare held n f4.type ((cs.drop f4.offset).take (P.cellsOf f4.type)) = some y4 := by
  obtain ⟨xs, n, _, rfl, hl, hlen, hf⟩ := DataW.trod_struct ht h
  match xs, hlen with
  | [y0, y1, y2, y3, y4], _ => exact ⟨y0, y1, y2, y3, y4, n, by simpa using hf 0 f0 rfl, by simpa using hf 1 f1 rfl, by simpa using hf 2 f2 rfl, by simpa using hf 3 f3 rfl, by simpa using hf 4 f4 rfl⟩

set_option maxRecDepth 100000 in
theorem open_op (a : Addr) (n : Nat) (cs : List Value) (D : DataW H × List MemPlace) (hc : W.cells? 0 a 5 = some cs) (h : DataW.trod enc Try.prog W 0 (fun _ => true) true n 54 cs = some D) :
    a.spot = none ∧ a.block < W.heap.size ∧ ∃ x : VOp, VOpAt W a.block a.off x := by
  have hs_int : Try.prog.cellsOf 3 = 1 := by kernel_rfl
  obtain ⟨_, hlen, hat⟩ := World.cells?_some hc
  obtain ⟨y0, y1, y2, y3, y4, n', t0, t1, t2, t3, t4⟩ := trod_struct5 Try.underlying54 h
  match cs, hlen with
  | [u0, u1, u2, u3, u4], _ =>
    have g0 := hat 0 (by omega)
    have g1 := hat 1 (by omega)
    have g2 := hat 2 (by omega)
    have g3 := hat 3 (by omega)
    have g4 := hat 4 (by omega)
    simp only [hs_int, List.drop, List.take] at t0 t1 t2 t3 t4
    obtain ⟨K0, eK0, _, _⟩ := DataW.trod_int Try.underlying3 t0
    obtain ⟨K1, eK1, _, _⟩ := DataW.trod_int Try.underlying3 t1
    obtain ⟨K2, eK2, _, _⟩ := DataW.trod_int Try.underlying3 t2
    obtain ⟨K3, eK3, _, _⟩ := DataW.trod_int Try.underlying3 t3
    obtain ⟨K4, eK4, _, _⟩ := DataW.trod_int Try.underlying3 t4
    simp at eK0 eK1 eK2 eK3 eK4
    subst eK0; subst eK1; subst eK2; subst eK3; subst eK4
    obtain ⟨h1, h2⟩ := spot_of g0
    obtain ⟨b, off, spot⟩ := a
    simp only at h1 h2
    subst h1
    rw [addr_add] at g0 g1 g2 g3 g4
    exact ⟨rfl, h2, ⟨K0, K1, K2, K3, K4⟩, g0, g1, g2, g3, g4⟩

set_option maxRecDepth 100000 in
theorem open_ops {fuel : Nat} {cs : List Value} {x : DataW H × List MemPlace} (h : DataW.trod enc Try.prog W 0 (fun _ => true) true fuel 22 cs = some x) :
    ∃ (p : Option Addr) (c : Nat) (l : List VOp), cs = [.slice p l.length c] ∧ l.length ≤ c ∧ VP W W.heap.size p l :=
  open_row Try.underlying22 (by kernel_rfl) VOpAt (fun a n cs D hc h => open_op a n cs D hc h) h

set_option maxRecDepth 100000 in
theorem open_flag (a : Addr) (n : Nat) (cs : List Value) (D : DataW H × List MemPlace) (hc : W.cells? 0 a 1 = some cs) (h : DataW.trod enc Try.prog W 0 (fun _ => true) true n 4 cs = some D) :
    a.spot = none ∧ a.block < W.heap.size ∧ ∃ x : Bool, BoolAt W a.block a.off x := by
  obtain ⟨_, hlen, hat⟩ := World.cells?_some hc
  match cs, hlen with
  | [u0], _ =>
    have g0 := hat 0 (by omega)
    obtain ⟨K0, eK0, _⟩ := DataW.trod_bool Try.underlying4 h
    simp at eK0
    subst eK0
    obtain ⟨h1, h2⟩ := spot_of g0
    obtain ⟨b, off, spot⟩ := a
    simp only at h1 h2
    subst h1
    rw [addr_add] at g0
    exact ⟨rfl, h2, K0, g0⟩

set_option maxRecDepth 100000 in
theorem open_flags {fuel : Nat} {cs : List Value} {x : DataW H × List MemPlace} (h : DataW.trod enc Try.prog W 0 (fun _ => true) true fuel 52 cs = some x) :
    ∃ (p : Option Addr) (c : Nat) (l : List Bool), cs = [.slice p l.length c] ∧ l.length ≤ c ∧ BP W W.heap.size p l :=
  open_row Try.underlying52 (by kernel_rfl) BoolAt (fun a n cs D hc h => open_flag a n cs D hc h) h
end
end Go.Proofs.Ytcbboaoakgngkaa
