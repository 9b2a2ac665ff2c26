/- What is proved: whether one system stands ahead of another one, in a row of places. -/
import Derived.Test.YtcbboaoakgngkaaMSdOrder
import Derived.Test.YtcbboaoakgngkaaMCr1
import Derived.Laws.BitsLemmas
import Derived.Deep.Cut
import Derived.Deep.CutRange
import Derived.Deep.CutBlock
import Derived.Test.YtcbboaoakgngkaaMRegion
import Derived.Laws.Externs
import Derived.Test.YtcbboaoakgngkaaMLay
import Derived.Test.YtcbboaoakgngkaaMHeap
namespace Go.Proofs.Ytcbboaoakgngkaa
open Go.RowKit Go.Proofs.Heap Go.Proofs.Sch

/-- A row of numbers. -/
def IntAt (w : World) (b o : Nat) (x : Int) : Prop := w.cell? ⟨b, o, none⟩ = some (.int .i64 x)
abbrev IP := RowP 1 IntAt
theorem IP.low {w w' : World} {B : Nat} {p : Option Addr} {l : List Int} (h : IP w B p l) (hl : Low B w w') : IP w' B p l :=
  RowP.imp h (Nat.le_refl _) fun b o x hb hx => by unfold IntAt at *; rw [hl.cell hb]; exact hx
theorem IP.mono {w : World} {B B' : Nat} {p : Option Addr} {l : List Int} (h : IP w B p l) (hB : B ≤ B') : IP w B' p l := RowP.imp h hB fun _ _ _ _ hx => hx
theorem IP.at {w : World} {B : Nat} {p : Option Addr} {l : List Int} (h : IP w B p l) {i : Nat} {s : Int} (hi : l[i]? = some s) : ∃ b off, p = some ⟨b, off, none⟩ ∧ b < B ∧ w.cell? ⟨b, off + i, none⟩ = some (.int .i64 s) := by
  rcases h with rfl | ⟨b, off, hp, hb, hc⟩
  · simp at hi
  · have := hc i s hi
    rw [Nat.mul_one] at this
    exact ⟨b, off, hp, hb, this⟩
theorem IP.own {w : World} {base n c : Nat} {e : TypeId} {p : Option Addr} {l : List Nat} (hn : l.length = n) (h : w.ownsRow base e 1 (.slice p n c) n (l.map iV)) : IP w w.heap.size p (l.map (fun i : Nat => (i : Int))) := by
  rcases Nat.eq_zero_or_pos n with h0 | h0
  · exact .inl (by rw [List.eq_nil_of_length_eq_zero (by omega : l.length = 0)]; rfl)
  · obtain ⟨q, rfl⟩ := owns_some h h0
    refine .inr ⟨q, 0, rfl, (h.lt q (by simp [Value.ownBlock])).2, fun i x hx => ?_⟩
    have hi : i < n := by have := (List.getElem?_eq_some_iff.1 hx).1; rw [List.length_map] at this; omega
    unfold IntAt
    rw [Nat.zero_add, Nat.mul_one, owns_cell h hi]
    rw [List.getElem?_map] at hx ⊢
    cases hy : l[i]? with
    | none => rw [hy] at hx; cases hx
    | some y => rw [hy] at hx; injection hx with hx; rw [← hx]; rfl

def outB (n : Nat) (i : Int) : Bool := decide (i < 0 ∨ (n : Int) ≤ i)
theorem out_clo (n qc : Nat) (q : Option Addr) (i : Int) (lb : Nat) (w : World) (hc : w.cell? ⟨lb, 0, none⟩ = some (.slice q n qc)) :
    Calls Try.prog 51 #[.int .i64 i, .pointer (some ⟨lb, 0, none⟩)] w fun r w' => r = .returned (.bool (outB n i)) ∧ w = w' := by
  have HO : Hid (outB n i = decide (i < 0 ∨ (n : Int) ≤ i)) := hid rfl
  generalize outB n i = R at *
  by_cases h1 : i < 0
  · have g1 : decide (i < 0) = true := decide_eq_true h1
    have G : Hid (R = true) := hid (by rw [HO.out, decide_eq_true (.inl h1)])
    clear h1
    go_enter Try.func51, Try.ntmps51
    go_wp2
    go_ret
    exact ⟨by rw [G.out]; rfl, rfl⟩
  have g1 : decide (i < 0) = false := decide_eq_false h1
  by_cases h2 : (n : Int) ≤ i
  · have g2 : decide ((n : Int) ≤ i) = true := decide_eq_true h2
    have G : Hid (R = true) := hid (by rw [HO.out, decide_eq_true (.inr h2)])
    clear h1 h2
    go_enter Try.func51, Try.ntmps51
    go_wp2
    go_ret
    exact ⟨by rw [G.out]; rfl, rfl⟩
  · have g2 : decide ((n : Int) ≤ i) = false := decide_eq_false h2
    have G : Hid (R = false) := hid (by rw [HO.out, decide_eq_false (by omega)])
    clear h1 h2
    go_enter Try.func51, Try.ntmps51
    go_wp2
    go_ret
    exact ⟨by rw [G.out]; rfl, rfl⟩

set_option maxRecDepth 20000 in
set_option maxHeartbeats 4000000 in
theorem idx_out (zs : List Int) (n qc : Nat) (q : Option Addr) (lb : Nat) (p : Option Addr) (cap : Nat) (w : World) (hl : zs.length ≤ 65536) (hf : IP w w.heap.size p zs) (hc : w.cell? ⟨lb, 0, none⟩ = some (.slice q n qc)) :
    Calls Try.prog 53 #[.slice p zs.length cap, .func (.func 51) #[] #[.pointer (some ⟨lb, 0, none⟩)]] w fun r w' => r = .returned (.int .i64 (idxI (outB n) zs)) ∧ w = w' := by
  have HF := hid hf
  have HQ := hid (fun i => out_clo n qc q i lb w hc)
  clear hf hc
  generalize outB n = ob at *
  go_enter Try.func53, Try.ntmps53
  go_wp2_with fail
  go_loopw [5, 8] (fun _ i wr => ∃ k : Nat, k ≤ zs.length ∧ i = iV k ∧ w = wr ∧ ∀ c ∈ zs.take k, ob c = false) (fun _ i _ => zs.length + 1 - (intOf i).toNat)
  case atStart => exact ⟨0, by omega, rfl, rfl, by simp⟩
  case round =>
    obtain ⟨k, hk, rfl, rfl, hall⟩ := hrel
    have HA := hid hall
    clear hall
    by_cases hlt : k < zs.length
    · obtain ⟨x, hxk⟩ : ∃ x, zs[k]? = some x := ⟨zs[k], by simp [hlt]⟩
      obtain ⟨b, off, rfl, hb, c0⟩ := IP.at HF.out hxk
      have hin : (0 : Int) ≤ (k : Int) ∧ (k : Int) < (zs.length : Int) := ⟨by omega, by omega⟩
      have HCK := hid hxk
      clear hxk hb
      go_wp2_with fail
      refine (HQ.out x).mono ?_
      rintro r w_ ⟨rfl, rfl⟩
      clear c0
      cases hqc : ob x
      · have HN : Hid (∀ d ∈ zs.take (k + 1), ob d = false) := hid (fun d hd => by
          rw [take_next HCK.out] at hd
          rcases List.mem_append.1 hd with h | h
          · exact HA.out d h
          · rw [List.mem_singleton.1 h]; exact hqc)
        clear hqc
        go_wp2
        go_roundw
        case rel => exact ⟨k + 1, by omega, by go_num, by first | rfl | trivial, HN.out⟩
        case measure => simp [intOf]; omega
      · have G3 := hid (idx_at HCK.out hqc HA.out)
        clear hqc
        go_wp2
        go_ret
        exact ⟨by rw [G3.out]; rfl, rfl⟩
    · obtain rfl : k = zs.length := by omega
      have g1 : decide ((zs.length : Int) < (zs.length : Int)) = false := decide_eq_false (by omega)
      have g2 : decide (zs.length < zs.length) = false := decide_eq_false (by omega)
      have G3 := hid (idx_none (q := ob) (l := zs) (by have := HA.out; rwa [List.take_length] at this))
      go_wp2
      go_ret
      exact ⟨by rw [G3.out]; rfl, rfl⟩
theorem idx_any_eq {α : Type} (q : α → Bool) (l : List α) : decide (0 ≤ idxI q l) = l.any q := by
  rcases idx_cases q l with h | ⟨k, x, h, _⟩
  · rw [h, idx_any_no _ _ h]; rfl
  · rw [idx_any _ _ ⟨k, h⟩, h]; exact decide_eq_true (Int.natCast_nonneg k)
set_option maxRecDepth 20000 in
theorem any_out (zs : List Int) (n qc : Nat) (q : Option Addr) (lb : Nat) (p : Option Addr) (cap : Nat) (w : World) (hl : zs.length ≤ 65536) (hf : IP w w.heap.size p zs) (hc : w.cell? ⟨lb, 0, none⟩ = some (.slice q n qc)) :
    Calls Try.prog 50 #[.slice p zs.length cap, .func (.func 51) #[] #[.pointer (some ⟨lb, 0, none⟩)]] w fun r w' => r = .returned (.bool (zs.any (outB n))) ∧ w = w' := by
  have HI := hid (idx_out zs n qc q lb p cap w hl hf hc)
  have HH := hid (idx_any_eq (outB n) zs)
  clear hl hf hc
  generalize idxI (outB n) zs = z at *
  generalize zs.any (outB n) = R at *
  go_enter Try.func50, Try.ntmps50
  go_wp2_with fail
  refine HI.out.mono ?_
  rintro r w1 ⟨rfl, rfl⟩
  go_wp2
  go_ret
  exact ⟨by rw [← HH.out]; rfl, rfl⟩

set_option maxRecDepth 20000 in
theorem nam_clo (l : List VSys) (q : Option Addr) (qc : Nat) (i : Nat) (lb nb : Nat) (t : ByteArray) (w : World) (hi : i < l.length) (hs : SP w w.heap.size q l) (hc : w.cell? ⟨lb, 0, none⟩ = some (.slice q l.length qc)) (hn : w.cell? ⟨nb, 0, none⟩ = some (.string t)) :
    Calls Try.prog 54 #[iV i, .pointer (some ⟨lb, 0, none⟩), .pointer (some ⟨nb, 0, none⟩)] w fun r w' => r = .returned (.bool (decide (nmS l i = t))) ∧ Keep (fun _ => False) w w' := by
  obtain ⟨b, off, rfl⟩ := sp_some hs hi
  have e0 : w.drew.cell? ⟨b, off + i * 6, none⟩ = some (.string (nmS l i)) := sys_name (SP.low hs (fun _ _ => rfl) : SP w.drew w.heap.size _ l) hi
  have hc' : w.drew.cell? ⟨lb, 0, none⟩ = some (.slice (some ⟨b, off, none⟩) l.length qc) := hc
  have hn' : w.drew.cell? ⟨nb, 0, none⟩ = some (.string t) := hn
  have hin : (0 : Int) ≤ (i : Int) ∧ (i : Int) < (l.length : Int) := ⟨by omega, by omega⟩
  have hsq := seq_dec (nmS l i) t
  have HK : Hid (Keep (fun _ => False) w w.drew) := hid (Keep.refl _ _).drew
  clear hs
  generalize decide (nmS l i = t) = R at *
  generalize nmS l i = s at *
  go_enter Try.func54, Try.ntmps54
  go_wp2_with fail
  refine Plan.wp_region_pl [(false, 0, []), (false, 1, []), (false, 2, []), (false, 3, []), (false, 4, []), (false, 5, []), (false, 6, []), (false, 7, [])] (by as_aux_lemma => kernel_rfl) (by as_aux_lemma => kernel_rfl) ?_
  iterate 8 (refine Plan.pl_st rfl ?_; go_big_quiet_step (fail); refine wpQuiet_nil ?_)
  refine Plan.pl_end ?_
  go_wp2
  go_ret
  exact ⟨by first | rfl | (rw [← hsq]; rfl), HK.out⟩

set_option maxRecDepth 20000 in
set_option maxHeartbeats 4000000 in
theorem idx_nam (l : List VSys) (q : Option Addr) (qc : Nat) (zs : List Nat) (lb nb : Nat) (t : ByteArray) (p : Option Addr) (cap : Nat) (w : World) (hl : zs.length ≤ 65536) (hz : ∀ i ∈ zs, i < l.length) (hf : IP w w.heap.size p (zs.map (fun i : Nat => (i : Int)))) (hs : SP w w.heap.size q l) (hc : w.cell? ⟨lb, 0, none⟩ = some (.slice q l.length qc)) (hn : w.cell? ⟨nb, 0, none⟩ = some (.string t)) :
    Calls Try.prog 53 #[.slice p zs.length cap, .func (.func 54) #[] #[.pointer (some ⟨lb, 0, none⟩), .pointer (some ⟨nb, 0, none⟩)]] w fun r w' => r = .returned (.int .i64 (idxI (fun i => decide (nmS l i = t)) zs)) ∧ Keep (fun _ => False) w w' := by
  have HF : Hid (∀ wy, Keep (fun _ => False) w wy → IP wy wy.heap.size p (zs.map (fun i : Nat => (i : Int)))) := hid (fun wy hk => IP.mono (IP.low hf (Low.keep0 hk)) hk.size)
  have HQ : Hid (∀ i wy, i < l.length → Keep (fun _ => False) w wy → Calls Try.prog 54 #[iV i, .pointer (some ⟨lb, 0, none⟩), .pointer (some ⟨nb, 0, none⟩)] wy fun r w' => r = .returned (.bool ((fun i => decide (nmS l i = t)) i)) ∧ Keep (fun _ => False) wy w') :=
    hid (fun i wy hi hk => nam_clo l q qc i lb nb t wy hi (SP.mono (SP.low hs (Low.keep0 hk)) hk.size) (((Low.keep0 hk).cell (o := 0) (World.block_lt_of_cell? w _ hc)).trans hc) (((Low.keep0 hk).cell (o := 0) (World.block_lt_of_cell? w _ hn)).trans hn))
  have HZ := hid hz
  obtain ⟨ob, hob⟩ : ∃ ob : Nat → Bool, ob = (fun i => decide (nmS l i = t)) := ⟨_, rfl⟩
  rw [← hob] at HQ
  rw [← hob]
  clear hf hc hs hn hob hz
  go_enter Try.func53, Try.ntmps53
  go_wp2_with fail
  go_loopw [5, 8] (fun _ i wr => ∃ k : Nat, k ≤ zs.length ∧ i = iV k ∧ Keep (fun _ => False) w wr ∧ ∀ c ∈ zs.take k, ob c = false) (fun _ i _ => zs.length + 1 - (intOf i).toNat)
  case atStart => exact ⟨0, by omega, rfl, Keep.refl _ _, by simp⟩
  case round =>
    obtain ⟨k, hk, rfl, hkr, hall⟩ := hrel
    have HA := hid hall; have HKR := hid hkr
    clear hall hkr
    by_cases hlt : k < zs.length
    · obtain ⟨x, hxk⟩ : ∃ x, zs[k]? = some x := ⟨zs[k], by simp [hlt]⟩
      obtain ⟨b, off, rfl, hb, c0⟩ := IP.at (HF.out _ HKR.out) (i := k) (s := (x : Int)) (by rw [List.getElem?_map, hxk]; rfl)
      have hin : (0 : Int) ≤ (k : Int) ∧ (k : Int) < (zs.length : Int) := ⟨by omega, by omega⟩
      have HCK := hid hxk
      have hxl := HZ.out x (List.mem_of_getElem? hxk)
      have HC := hid (HQ.out x wr hxl HKR.out)
      clear hxk hb hxl
      go_wp2_with fail
      refine HC.out.mono ?_
      rintro r w2 ⟨rfl, hk2⟩
      have HK2 := hid (HKR.out.trans hk2)
      clear c0 hk2 HC
      cases hqc : ob x
      · have HN : Hid (∀ d ∈ zs.take (k + 1), ob d = false) := hid (fun d hd => by
          rw [take_next HCK.out] at hd
          rcases List.mem_append.1 hd with h | h
          · exact HA.out d h
          · rw [List.mem_singleton.1 h]; exact hqc)
        clear hqc
        go_wp2
        go_roundw
        case rel => exact ⟨k + 1, by omega, by go_num, HK2.out, HN.out⟩
        case measure => simp [intOf]; omega
      · have G3 := hid (idx_at HCK.out hqc HA.out)
        clear hqc
        go_wp2
        go_ret
        exact ⟨by rw [G3.out]; rfl, HK2.out⟩
    · obtain rfl : k = zs.length := by omega
      have g1 : decide ((zs.length : Int) < (zs.length : Int)) = false := decide_eq_false (by omega)
      have g2 : decide (zs.length < zs.length) = false := decide_eq_false (by omega)
      have G3 := hid (idx_none (q := ob) (l := zs) (by have := HA.out; rwa [List.take_length] at this))
      go_wp2
      go_ret
      exact ⟨by rw [G3.out]; rfl, HKR.out⟩
/-- The place of a name in a row of places. -/
def plcS (l : List VSys) (zs : List Nat) (t : ByteArray) : Int := idxI (fun i => decide (nmS l i = t)) zs
set_option maxRecDepth 20000 in
theorem plc_clo (l : List VSys) (q : Option Addr) (qc : Nat) (zs : List Nat) (lb ob : Nat) (t : ByteArray) (p : Option Addr) (cap : Nat) (w : World) (hl : zs.length ≤ 65536) (hz : ∀ i ∈ zs, i < l.length) (hf : IP w w.heap.size p (zs.map (fun i : Nat => (i : Int)))) (hs : SP w w.heap.size q l) (hc : w.cell? ⟨lb, 0, none⟩ = some (.slice q l.length qc)) (ho : w.cell? ⟨ob, 0, none⟩ = some (.slice p zs.length cap)) :
    Calls Try.prog 52 #[.string t, .pointer (some ⟨ob, 0, none⟩), .pointer (some ⟨lb, 0, none⟩)] w fun r w' => r = .returned (.int .i64 (plcS l zs t)) ∧ Keep (fun _ => False) w w' := by
  obtain ⟨w1, hw1, hb1, hs1, hk1⟩ := box1 w #[.string t] 9
  have HK1 := hid hk1
  have hlw := Low.keep0 hk1
  have HI := hid (idx_nam l q qc zs lb w.heap.size t p cap w1 hl hz (IP.mono (IP.low hf hlw) hk1.size) (SP.mono (SP.low hs hlw) hk1.size) ((hlw.cell (o := 0) (World.block_lt_of_cell? w _ hc)).trans hc) (cell_of hb1 (by rfl)))
  have o1 : w1.cell? ⟨ob, 0, none⟩ = some (.slice p zs.length cap) := (hlw.cell (o := 0) (World.block_lt_of_cell? w _ ho)).trans ho
  have HP : Hid (plcS l zs t = idxI (fun i => decide (nmS l i = t)) zs) := hid rfl
  clear hb1 hs1 hk1 hf hs hc ho hlw hl hz
  generalize idxI (fun i => decide (nmS l i = t)) zs = z at *
  go_enter Try.func52, Try.ntmps52
  go_upto_region 1 with fail
  rw [← hw1]
  clear hw1
  generalize w.heap.size = nb at *
  go_wp2_with fail
  refine HI.out.mono ?_
  rintro r w2 ⟨rfl, hk2⟩
  have HK2 := hid (HK1.out.trans hk2)
  clear hk2
  go_wp2
  go_ret
  exact ⟨by rw [HP.out]; rfl, HK2.out⟩

/-- Whether one name stands ahead of another. -/
def aheadB (l : List VSys) (zs : List Int) (a b : ByteArray) : Bool := !zs.any (outB l.length) && decide (0 ≤ plcS l (zs.map Int.toNat) a ∧ 0 ≤ plcS l (zs.map Int.toNat) b ∧ plcS l (zs.map Int.toNat) a < plcS l (zs.map Int.toNat) b)
set_option maxRecDepth 20000 in
set_option maxHeartbeats 4000000 in
theorem sd_ahead (l : List VSys) (q : Option Addr) (qc : Nat) (zs : List Int) (p : Option Addr) (cap : Nat) (a b : ByteArray) (w : World) (hl : zs.length ≤ 65536) (hf : IP w w.heap.size p zs) (hs : SP w w.heap.size q l) :
    Calls Try.prog 27 #[.slice q l.length qc, .slice p zs.length cap, .string a, .string b] w fun r w' => r = .returned (.bool (aheadB l zs a b)) ∧ Keep (fun _ => False) w w' := by
  obtain ⟨w1, hw1, hb1, hb2, hs1, hk1⟩ := box2 w #[.slice q l.length qc] #[.slice p zs.length cap] 37 24
  have HK1 := hid hk1
  have HIP : Hid (∀ wy, Keep (fun _ => False) w1 wy → IP wy wy.heap.size p zs) := hid (fun wy hk => IP.mono (IP.low hf (Low.keep0 (hk1.trans hk))) (hk1.trans hk).size)
  have HSP : Hid (∀ wy, Keep (fun _ => False) w1 wy → SP wy wy.heap.size q l) := hid (fun wy hk => SP.mono (SP.low hs (Low.keep0 (hk1.trans hk))) (hk1.trans hk).size)
  have HC : Hid (∀ wy, Keep (fun _ => False) w1 wy → wy.cell? ⟨w.heap.size, 0, none⟩ = some (.slice q l.length qc) ∧ wy.cell? ⟨w.heap.size + 1, 0, none⟩ = some (.slice p zs.length cap)) := hid (fun wy hk => ⟨cell_of (hk.get hb1 id) (by rfl), cell_of (hk.get hb2 id) (by rfl)⟩)
  have HA : Hid (aheadB l zs a b = (!zs.any (outB l.length) && decide (0 ≤ plcS l (zs.map Int.toNat) a ∧ 0 ≤ plcS l (zs.map Int.toNat) b ∧ plcS l (zs.map Int.toNat) a < plcS l (zs.map Int.toNat) b))) := hid rfl
  generalize aheadB l zs a b = R at *
  clear hb1 hb2 hs1 hk1 hf hs
  go_enter Try.func27, Try.ntmps27
  go_upto_region 1 with fail
  rw [← hw1]
  clear hw1
  generalize w.heap.size + 1 = ob at *
  generalize w.heap.size = lb at *
  obtain ⟨c0, c1⟩ := HC.out _ (Keep.refl _ _)
  have HAN := hid (any_out zs l.length qc q lb p cap w1 hl (HIP.out _ (Keep.refl _ _)) c0)
  go_wp2_with fail
  refine HAN.out.mono ?_
  rintro r w_ ⟨rfl, rfl⟩
  cases hany : zs.any (outB l.length)
  rotate_left
  · have G : Hid (R = false) := hid (by rw [HA.out, hany]; rfl)
    clear hany
    go_wp2
    go_ret
    exact ⟨by rw [G.out]; rfl, HK1.out⟩
  have hzz : ∀ i ∈ zs, 0 ≤ i ∧ i < (l.length : Int) := fun i hi => by
    rw [List.any_eq_false] at hany
    have := hany i hi
    unfold outB at this
    rw [decide_eq_true_iff] at this
    omega
  have hmm : (zs.map Int.toNat).map (fun i : Nat => (i : Int)) = zs := by
    rw [List.map_map]
    conv => rhs; rw [← List.map_id zs]
    exact List.map_congr_left (fun i hi => Int.toNat_of_nonneg (hzz i hi).1)
  have hln : (zs.map Int.toNat).length = zs.length := List.length_map _
  have hlt : ∀ i ∈ zs.map Int.toNat, i < l.length := fun i hi => by
    obtain ⟨j, hj, rfl⟩ := List.mem_map.1 hi
    have := hzz j hj
    omega
  have HA2 : Hid (R = decide (0 ≤ plcS l (zs.map Int.toNat) a ∧ 0 ≤ plcS l (zs.map Int.toNat) b ∧ plcS l (zs.map Int.toNat) a < plcS l (zs.map Int.toNat) b)) := hid (by rw [HA.out, hany]; rfl)
  have HPL : Hid (∀ t wy, Keep (fun _ => False) w1 wy → Calls Try.prog 52 #[.string t, .pointer (some ⟨ob, 0, none⟩), .pointer (some ⟨lb, 0, none⟩)] wy fun r w' => r = .returned (.int .i64 (plcS l (zs.map Int.toNat) t)) ∧ Keep (fun _ => False) wy w') := hid (fun t wy hk => by
    obtain ⟨d0, d1⟩ := HC.out _ hk
    refine plc_clo l q qc (zs.map Int.toNat) lb ob t p cap wy (by rw [hln]; exact hl) hlt (by rw [hmm]; exact HIP.out _ hk) (HSP.out _ hk) d0 (by rw [hln]; exact d1))
  clear hany hzz hmm hln hlt HA HAN
  generalize zs.map Int.toNat = ns at *
  go_wp2_with fail
  refine (HPL.out a w1 (Keep.refl _ _)).mono ?_
  rintro r w2 ⟨rfl, hk2⟩
  have HK2 := hid hk2
  clear hk2 c0 c1
  go_wp2_with fail
  refine (HPL.out b w2 HK2.out).mono ?_
  rintro r w3 ⟨rfl, hk3⟩
  have HK3 := hid (HK1.out.trans (HK2.out.trans hk3))
  clear hk3
  generalize plcS l ns a = x at *
  generalize plcS l ns b = y at *
  by_cases h1 : 0 ≤ x
  rotate_left
  · have g1 : decide (0 ≤ x) = false := decide_eq_false h1
    have G : Hid (R = false) := hid (by rw [HA2.out, decide_eq_false (fun h => h1 h.1)])
    clear h1
    go_wp2
    go_ret
    exact ⟨by rw [G.out]; rfl, HK3.out⟩
  have g1 : decide (0 ≤ x) = true := decide_eq_true h1
  by_cases h2 : 0 ≤ y
  rotate_left
  · have g2 : decide (0 ≤ y) = false := decide_eq_false h2
    have G : Hid (R = false) := hid (by rw [HA2.out, decide_eq_false (fun h => h2 h.2.1)])
    clear h1 h2
    go_wp2
    go_ret
    exact ⟨by rw [G.out]; rfl, HK3.out⟩
  have g2 : decide (0 ≤ y) = true := decide_eq_true h2
  have G : Hid (R = decide (x < y)) := hid (by rw [HA2.out]; exact decide_eq_decide.2 ⟨fun h => h.2.2, fun h => ⟨h1, h2, h⟩⟩)
  clear h1 h2
  go_wp2
  go_ret
  exact ⟨by rw [G.out]; rfl, HK3.out⟩
end Go.Proofs.Ytcbboaoakgngkaa

namespace Go.Proofs.Ytcbboaoakgngkaa
open Go.RowKit Go.Proofs.Heap Go.Proofs.Sch

def SLA : List VSys := [⟨⟨#[99]⟩, 1, [], 0, 0, []⟩, ⟨⟨#[97]⟩, 1, [⟨#[98]⟩], 0, 0, []⟩, ⟨⟨#[98]⟩, 1, [], 0, 0, []⟩, ⟨⟨#[122]⟩, 0, [], 0, 0, []⟩]
def SLB : List VSys := [⟨⟨#[97]⟩, 0, [⟨#[98]⟩], 0, 0, []⟩, ⟨⟨#[98]⟩, 0, [⟨#[97]⟩], 0, 0, []⟩]
def SLC : List VSys := [⟨⟨#[97]⟩, 0, [⟨#[98]⟩], 0, 0, []⟩]
theorem sa1 : ordE SLA = 0 := by decide +kernel
theorem sa2 : ordL SLA = [3, 2, 1, 0] := by decide +kernel
theorem sa3 : ordE SLB = 7 := by decide +kernel
theorem sa4 : ordE SLC = 6 := by decide +kernel
theorem sa5 : aheadB SLA [3, 2, 1, 0] ⟨#[98]⟩ ⟨#[97]⟩ = true := by decide +kernel
theorem sa6 : aheadB SLA [3, 2, 1, 0] ⟨#[97]⟩ ⟨#[120]⟩ = false := by decide +kernel
theorem one_str {w : World} {b : Nat} {t : TypeId} {s : ByteArray} (h : w.heap[b]? = some (.cells #[.string s] t (0, 0))) {B : Nat} (hB : b < B) : TP w B (some ⟨b, 0, none⟩) [s] :=
  .inr ⟨b, 0, rfl, hB, fun i x hx => by
    match i, hx with
    | 0, hx => injection hx with hx; subst hx; exact cell_of h (by rfl)
    | _ + 1, hx => simp at hx⟩

set_option maxRecDepth 20000 in
set_option maxHeartbeats 16000000 in
theorem sd_awake (w : World) : Calls Try.prog 21 #[] w fun r w' => r = .returned (.bool true) ∧ Keep (fun _ => False) w w' := by
  obtain ⟨w1, hw1, hb1, hb2, hs1, hk1⟩ := box2 w #[.string ⟨#[98]⟩] #[.string ⟨#[99]⟩, .int .i64 1, .slice none 0 0, .int .u32 0, .int .u32 0, .slice none 0 0, .string ⟨#[97]⟩, .int .i64 1, .slice (some ⟨w.heap.size, 0, none⟩) 1 1, .int .u32 0, .int .u32 0, .slice none 0 0, .string ⟨#[98]⟩, .int .i64 1, .slice none 0 0, .int .u32 0, .int .u32 0, .slice none 0 0, .string ⟨#[122]⟩, .int .i64 0, .slice none 0 0, .int .u32 0, .int .u32 0, .slice none 0 0] 9 43
  have HK1 := hid hk1
  have HS1 : Hid (∀ wy, Keep (fun _ => False) w1 wy → SP wy wy.heap.size (some ⟨w.heap.size + 1, 0, none⟩) SLA) := hid (fun wy hk => by
    have k1 := hk.get hb1 id
    have k2 := hk.get hb2 id
    refine .inr ⟨_, 0, rfl, lt_of_heap k2, fun i x hx => ?_⟩
    match i, hx with
    | 0, hx => injection hx with hx; subst hx; exact ⟨cell_of k2 (by rfl), cell_of k2 (by rfl), cell_of k2 (by rfl), cell_of k2 (by rfl), by decide, by decide, none, 0, none, 0, cell_of k2 (by rfl), cell_of k2 (by rfl), by decide, .inl rfl, .inl rfl⟩
    | 1, hx => injection hx with hx; subst hx; exact ⟨cell_of k2 (by rfl), cell_of k2 (by rfl), cell_of k2 (by rfl), cell_of k2 (by rfl), by decide, by decide, _, 1, none, 0, cell_of k2 (by rfl), cell_of k2 (by rfl), by decide, one_str k1 (lt_of_heap k1), .inl rfl⟩
    | 2, hx => injection hx with hx; subst hx; exact ⟨cell_of k2 (by rfl), cell_of k2 (by rfl), cell_of k2 (by rfl), cell_of k2 (by rfl), by decide, by decide, none, 0, none, 0, cell_of k2 (by rfl), cell_of k2 (by rfl), by decide, .inl rfl, .inl rfl⟩
    | 3, hx => injection hx with hx; subst hx; exact ⟨cell_of k2 (by rfl), cell_of k2 (by rfl), cell_of k2 (by rfl), cell_of k2 (by rfl), by decide, by decide, none, 0, none, 0, cell_of k2 (by rfl), cell_of k2 (by rfl), by decide, .inl rfl, .inl rfl⟩
    | _ + 4, hx => simp [SLA] at hx)
  clear hb1 hb2 hk1 hs1
  go_enter Try.func21, Try.ntmps21
  go_upto_region 2 with fail
  rw [← hw1]
  clear hw1
  generalize w.heap.size = xb at *
  go_wp2_with fail
  have hc := sd_order SLA (some ⟨xb + 1, 0, none⟩) 4 w1 (HS1.out _ (Keep.refl _ _))
  rw [sa1, sa2] at hc
  refine hc.mono ?_
  clear hc
  rintro r w2 ⟨pa, qa, rfl, hox, hk2⟩
  obtain ⟨go, rfl⟩ := owns_some hox (by decide)
  have HK2 := hid hk2
  have HD : Hid (∀ wy, Keep (fun _ => False) w2 wy → wy.cell? ⟨go, 0, none⟩ = some (.int .i64 3) ∧ wy.cell? ⟨go, 1, none⟩ = some (.int .i64 2) ∧ wy.cell? ⟨go, 2, none⟩ = some (.int .i64 1) ∧ wy.cell? ⟨go, 3, none⟩ = some (.int .i64 0)) := hid (fun wy hk => by
    have ho := owns_keep (w' := wy) hox (fun k hk' => hk.block k (hox.lt k hk').2 id)
    exact ⟨owns_cell (k := 0) ho (by decide), owns_cell (k := 1) ho (by decide), owns_cell (k := 2) ho (by decide), owns_cell (k := 3) ho (by decide)⟩)
  have HIP : Hid (∀ wy, Keep (fun _ => False) w2 wy → IP wy wy.heap.size (some ⟨go, 0, none⟩) [3, 2, 1, 0]) := hid (fun wy hk => by
    have ho := owns_keep (w' := wy) hox (fun k hk' => hk.block k (hox.lt k hk').2 id)
    exact IP.own (l := [3, 2, 1, 0]) rfl ho)
  clear hox hk2
  go_wp2_with fail
  have hc := sd_names SLA (some ⟨xb + 1, 0, none⟩) 4 w2 (HS1.out _ HK2.out)
  rw [sa1, sa2] at hc
  refine hc.mono ?_
  clear hc
  rintro r w3 ⟨pb, qb, rfl, hox, hk3⟩
  obtain ⟨gn, rfl⟩ := owns_some hox (by decide)
  have HK23 := hid hk3
  have HN : Hid (∀ wy, Keep (fun _ => False) w3 wy → wy.cell? ⟨gn, 0, none⟩ = some (.string ⟨#[122]⟩) ∧ wy.cell? ⟨gn, 1, none⟩ = some (.string ⟨#[98]⟩) ∧ wy.cell? ⟨gn, 2, none⟩ = some (.string ⟨#[97]⟩)) := hid (fun wy hk => by
    have ho := owns_keep (w' := wy) hox (fun k hk' => hk.block k (hox.lt k hk').2 id)
    exact ⟨owns_cell (k := 0) ho (by decide), owns_cell (k := 1) ho (by decide), owns_cell (k := 2) ho (by decide)⟩)
  clear hox hk3
  obtain ⟨w4, hw4, hb1, hb2, hb3, hs4, hk4⟩ := box3 w3 #[.string ⟨#[98]⟩] #[.string ⟨#[97]⟩] #[.string ⟨#[97]⟩, .int .i64 0, .slice (some ⟨w3.heap.size, 0, none⟩) 1 1, .int .u32 0, .int .u32 0, .slice none 0 0, .string ⟨#[98]⟩, .int .i64 0, .slice (some ⟨w3.heap.size + 1, 0, none⟩) 1 1, .int .u32 0, .int .u32 0, .slice none 0 0] 9 9 43
  have HK34 := hid hk4
  have HS4 : Hid (SP w4 w4.heap.size (some ⟨w3.heap.size + 1 + 1, 0, none⟩) SLB) := hid (by
    refine .inr ⟨_, 0, rfl, lt_of_heap hb3, fun i x hx => ?_⟩
    match i, hx with
    | 0, hx => injection hx with hx; subst hx; exact ⟨cell_of hb3 (by rfl), cell_of hb3 (by rfl), cell_of hb3 (by rfl), cell_of hb3 (by rfl), by decide, by decide, _, 1, none, 0, cell_of hb3 (by rfl), cell_of hb3 (by rfl), by decide, one_str hb1 (lt_of_heap hb1), .inl rfl⟩
    | 1, hx => injection hx with hx; subst hx; exact ⟨cell_of hb3 (by rfl), cell_of hb3 (by rfl), cell_of hb3 (by rfl), cell_of hb3 (by rfl), by decide, by decide, _, 1, none, 0, cell_of hb3 (by rfl), cell_of hb3 (by rfl), by decide, one_str hb2 (lt_of_heap hb2), .inl rfl⟩
    | _ + 2, hx => simp [SLB] at hx)
  clear hb1 hb2 hb3 hk4 hs4
  go_wp2_with fail
  rw [← hw4]
  clear hw4
  have hc := sd_order SLB (some ⟨w3.heap.size + 1 + 1, 0, none⟩) 2 w4 HS4.out
  rw [sa3] at hc
  refine hc.mono ?_
  clear hc
  rintro r w5 ⟨pc, qc, rfl, _, hk5⟩
  have HK35 := hid (HK34.out.trans hk5)
  clear hk5 HS4
  obtain ⟨w6, hw6, hb1, hb2, hs6, hk6⟩ := box2 w5 #[.string ⟨#[98]⟩] #[.string ⟨#[97]⟩, .int .i64 0, .slice (some ⟨w5.heap.size, 0, none⟩) 1 1, .int .u32 0, .int .u32 0, .slice none 0 0] 9 43
  have HK36 := hid (HK35.out.trans hk6)
  have HS6 : Hid (SP w6 w6.heap.size (some ⟨w5.heap.size + 1, 0, none⟩) SLC) := hid (by
    refine .inr ⟨_, 0, rfl, lt_of_heap hb2, fun i x hx => ?_⟩
    match i, hx with
    | 0, hx => injection hx with hx; subst hx; exact ⟨cell_of hb2 (by rfl), cell_of hb2 (by rfl), cell_of hb2 (by rfl), cell_of hb2 (by rfl), by decide, by decide, _, 1, none, 0, cell_of hb2 (by rfl), cell_of hb2 (by rfl), by decide, one_str hb1 (lt_of_heap hb1), .inl rfl⟩
    | _ + 1, hx => simp [SLC] at hx)
  clear hb1 hb2 hk6 hs6
  go_wp2_with fail
  rw [← hw6]
  clear hw6
  have hc := sd_order SLC (some ⟨w5.heap.size + 1, 0, none⟩) 1 w6 HS6.out
  rw [sa4] at hc
  refine hc.mono ?_
  clear hc
  rintro r w7 ⟨pd, qd, rfl, _, hk7⟩
  have HK37 := hid (HK36.out.trans hk7)
  clear hk7 HS6
  have HK27 := hid (HK23.out.trans HK37.out)
  obtain ⟨d0, d1, d2, d3⟩ := HD.out _ HK27.out
  obtain ⟨n0, n1, n2⟩ := HN.out _ HK37.out
  have h1 := seq_dec ⟨#[122]⟩ ⟨#[122]⟩
  have h2 := seq_dec ⟨#[98]⟩ ⟨#[98]⟩
  have h3 := seq_dec ⟨#[97]⟩ ⟨#[97]⟩
  rw [decide_eq_true rfl] at h1 h2 h3
  go_wp2_with fail
  have hc := sd_ahead SLA (some ⟨xb + 1, 0, none⟩) 4 [3, 2, 1, 0] (some ⟨go, 0, none⟩) qa ⟨#[98]⟩ ⟨#[97]⟩ w7 (by decide) (HIP.out _ HK27.out) (HS1.out _ (HK2.out.trans HK27.out))
  rw [sa5] at hc
  refine hc.mono ?_
  clear hc
  rintro r w8 ⟨rfl, hk8⟩
  have HK28 := hid (HK27.out.trans hk8)
  clear hk8
  go_wp2_with fail
  have hc := sd_ahead SLA (some ⟨xb + 1, 0, none⟩) 4 [3, 2, 1, 0] (some ⟨go, 0, none⟩) qa ⟨#[97]⟩ ⟨#[120]⟩ w8 (by decide) (HIP.out _ HK28.out) (HS1.out _ (HK2.out.trans HK28.out))
  rw [sa6] at hc
  refine hc.mono ?_
  clear hc
  rintro r w9 ⟨rfl, hk9⟩
  have HK29 := hid (HK1.out.trans (HK2.out.trans (HK28.out.trans hk9)))
  clear hk9
  go_wp2
  go_ret
  exact ⟨rfl, HK29.out⟩
end Go.Proofs.Ytcbboaoakgngkaa

namespace Go.Proofs.Wide
/-- A great number: its sign and its size's two words. -/
structure WI where
  neg : Bool
  hi : Nat
  lo : Nat
def WI.mag (x : WI) : Nat := x.hi * 18446744073709551616 + x.lo
def WI.val (x : WI) : Int := if x.neg = true then -(x.mag : Int) else (x.mag : Int)
/-- Whether a number is in form. -/
def WI.form (x : WI) : Bool := decide (x.hi < 9223372036854775808) && (!x.neg || decide (x.mag ≠ 0))
def WI.fit (x : WI) : Prop := x.hi < 18446744073709551616 ∧ x.lo < 18446744073709551616
def cmpN (a b : Nat) : Int := if b < a then 1 else if a = b then 0 else -1
def cmpI (a b : Int) : Int := if b < a then 1 else if a = b then 0 else -1
/-- Which of two numbers is greater; nought where one isn't in form. -/
def cmpW (x y : WI) : Int := if x.form = true ∧ y.form = true then cmpI x.val y.val else 0
end Go.Proofs.Wide
namespace Go.Proofs.Ytcbboaoakgngkaa
open Go.RowKit Go.Proofs.Heap Go.Proofs.Wide

abbrev WV (x : WI) : Value := .agg #[.bool x.neg, .int .u64 (x.hi : Int), .int .u64 (x.lo : Int)]
abbrev WC (x : WI) : Array Value := #[.bool x.neg, .int .u64 (x.hi : Int), .int .u64 (x.lo : Int)]

theorem wraps64 (n : Int) (h₀ : 0 ≤ n) (h₁ : n < 2 ^ 64) : IntKind.u64.wrap n = n := by
  have : IntKind.u64.wrap n = n % 18446744073709551616 := by simp [IntKind.wrap, IntKind.bits, IntKind.signed]
  omega
theorem or_zero (a b : Nat) (ha : a < 18446744073709551616) (hb : b < 18446744073709551616) : ∃ z : Nat, bits .or .u64 (a : Int) (b : Int) = (z : Int) ∧ (z = 0 ↔ a = 0 ∧ b = 0) := by
  refine ⟨a ||| b, (bits_nat .u64 64 (by decide) wraps64 a b ha hb).2, ?_⟩
  exact Nat.or_eq_zero_iff

theorem form_zero {x : WI} (h : x.form = true) (hn : x.neg = true) : x.mag ≠ 0 := by
  unfold WI.form at h
  rw [hn] at h
  simp at h
  exact h.2

end Go.Proofs.Ytcbboaoakgngkaa

namespace Go.Proofs.Ytcbboaoakgngkaa
open Go.RowKit Go.Proofs.Heap Go.Proofs.Wide

abbrev Z3 : Array Value := #[.bool false, .int .u64 0, .int .u64 0]
def normW (ng : Bool) (hi lo : Nat) : WI := ⟨ng && decide (hi * 18446744073709551616 + lo ≠ 0), hi, lo⟩

end Go.Proofs.Ytcbboaoakgngkaa

namespace Go.Proofs.Ytcbboaoakgngkaa
open Go.RowKit Go.Proofs.Heap Go.Proofs.Wide

theorem neg_form (a : Nat) (ha : 0 < a) : WI.form ⟨true, 0, a⟩ = true := by
  unfold WI.form WI.mag
  simp
  omega
theorem normW_neg (a : Nat) (ha : 0 < a) : normW true 0 a = ⟨true, 0, a⟩ := by
  unfold normW
  have : decide (0 * 18446744073709551616 + a ≠ 0) = true := decide_eq_true (by omega)
  rw [this]; rfl

end Go.Proofs.Ytcbboaoakgngkaa

namespace Go.Proofs.Ytcbboaoakgngkaa
open Go.RowKit Go.Proofs.Heap Go.Proofs.Wide

theorem pos_form (a : Nat) : WI.form ⟨false, 0, a⟩ = true := by
  unfold WI.form
  simp
/-- A kind's greatest number. -/
def greatN (k : Int) : Nat := if k = 1 then 1 else if k = 2 then 127 else if k = 3 then 32767 else if k = 4 then 2147483647 else if k = 5 then 9223372036854775807 else if k = 6 then 255 else if k = 7 then 65535 else if k = 8 then 4294967295 else 18446744073709551615

end Go.Proofs.Ytcbboaoakgngkaa

namespace Go.Proofs.Ytcbboaoakgngkaa
open Go.RowKit Go.Proofs.Heap Go.Proofs.Wide

end Go.Proofs.Ytcbboaoakgngkaa

namespace Go.Proofs.Ytcbboaoakgngkaa
open Go.RowKit Go.Proofs.Heap Go.Proofs.Wide

def leastW (k : Int) : WI := if signK k = true then ⟨true, 0, greatN k + 1⟩ else ⟨false, 0, 0⟩
def greatW (k : Int) : WI := ⟨false, 0, greatN k⟩
theorem greatN_lt (k : Int) : greatN k < 18446744073709551616 := by
  unfold greatN
  repeat' split
  all_goals decide
theorem greatN_sign {k : Int} (h : signK k = true) : 0 < greatN k ∧ greatN k + 1 < 18446744073709551616 := by
  have := of_decide_eq_true h
  have hk : k = 2 ∨ k = 3 ∨ k = 4 ∨ k = 5 := by omega
  rcases hk with rfl | rfl | rfl | rfl <;> decide
theorem greatW_fit (k : Int) : (greatW k).fit := ⟨(by decide : (0 : Nat) < 18446744073709551616), greatN_lt k⟩
theorem leastW_fit (k : Int) : (leastW k).fit := by
  unfold leastW
  cases h : signK k
  · rw [if_neg (by simp)]; exact ⟨(by decide : (0 : Nat) < 18446744073709551616), (by decide : (0 : Nat) < 18446744073709551616)⟩
  · rw [if_pos rfl]; exact ⟨(by decide : (0 : Nat) < 18446744073709551616), (greatN_sign h).2⟩
theorem greatW_form (k : Int) : (greatW k).form = true := pos_form _
theorem leastW_form (k : Int) : (leastW k).form = true := by
  unfold leastW
  cases h : signK k
  · rw [if_neg (by simp)]; exact pos_form 0
  · rw [if_pos rfl]; exact neg_form _ (by omega)

theorem field_sign (s : ByteArray) (z : Int) (g : Bool) (w : World) : (Instr.field 163 (.agg #[.string s, .int .i64 z, .bool g]) 2).run Try.prog w = .ok (.bool g) w := by kernel_rfl

/-- Whether a number fits a kind. -/
def fitsB (k : Int) (x : WI) : Bool := kindB k && (x.form && (decide (0 ≤ cmpW x (leastW k)) && decide (cmpW x (greatW k) ≤ 0)))

end Go.Proofs.Ytcbboaoakgngkaa

namespace Go.Proofs.Ytcbboaoakgngkaa
open Go.RowKit Go.Proofs.Heap Go.Proofs.Sch Go.Proofs.Wide

/-- How many elements the fields have. -/
def sumN : List Fld → Nat
  | [] => 0
  | f :: r => f.count.toNat + sumN r
theorem sumN_append (a b : List Fld) : sumN (a ++ b) = sumN a + sumN b := by
  induction a with
  | nil => simp [sumN]
  | cons x a ih => simp [sumN, ih]; omega
theorem layC_zero {fs : List Fld} (h : layC fs = 0) : fs.length ≤ 8 ∧ (∀ f ∈ fs, okF f) := by
  unfold layC at h
  by_cases h1 : 8 < fs.length
  · rw [if_pos h1] at h; omega
  · rw [if_neg h1] at h
    by_cases h2 : ∀ f ∈ fs, okF f
    · exact ⟨by omega, h2⟩
    · rw [if_neg h2] at h; omega
theorem sumN_next {fs : List Fld} {k : Nat} {f : Fld} (h : fs[k]? = some f) : sumN (fs.take (k + 1)) = sumN (fs.take k) + f.count.toNat := by
  rw [take_next h, sumN_append]; simp [sumN]
theorem sumN_le (fs : List Fld) (h : ∀ f ∈ fs, okF f) : sumN fs ≤ 8 * fs.length := by
  induction fs with
  | nil => simp [sumN]
  | cons f r ih =>
    have h1 := (h f (by simp)).2
    have h2 := ih (fun g hg => h g (by simp [hg]))
    simp only [sumN, List.length_cons]
    omega

end Go.Proofs.Ytcbboaoakgngkaa

namespace Go.Proofs.Sch
open Go.RowKit Go.Proofs.Heap Go.Proofs.Wide
def IntAt (w : World) (b o : Nat) (x : WI) : Prop := w.cell? ⟨b, o, none⟩ = some (.bool x.neg) ∧ w.cell? ⟨b, o + 1, none⟩ = some (.int .u64 (x.hi : Int)) ∧ w.cell? ⟨b, o + 2, none⟩ = some (.int .u64 (x.lo : Int))
abbrev XP := RowP 3 IntAt
theorem XP.low {w w' : World} {B : Nat} {p : Option Addr} {l : List WI} (h : XP w B p l) (hl : Low B w w') : XP w' B p l :=
  RowP.imp h (Nat.le_refl _) fun b o x hb hx => ⟨by rw [hl.cell hb]; exact hx.1, by rw [hl.cell hb]; exact hx.2.1, by rw [hl.cell hb]; exact hx.2.2⟩
theorem XP.mono {w : World} {B B' : Nat} {p : Option Addr} {l : List WI} (h : XP w B p l) (hB : B ≤ B') : XP w B' p l := RowP.imp h hB fun _ _ _ _ hx => hx
theorem XP.at {w : World} {B : Nat} {p : Option Addr} {l : List WI} (h : XP w B p l) {i : Nat} {f : WI} (hi : l[i]? = some f) : ∃ b off, p = some ⟨b, off, none⟩ ∧ b < B ∧ w.cell? ⟨b, off + i * 3, none⟩ = some (.bool f.neg) ∧ w.cell? ⟨b, off + i * 3 + 1, none⟩ = some (.int .u64 (f.hi : Int)) ∧ w.cell? ⟨b, off + i * 3 + 2, none⟩ = some (.int .u64 (f.lo : Int)) := by
  rcases h with rfl | ⟨b, off, hp, hb, hc⟩
  · simp at hi
  · obtain ⟨h1, h2, h3⟩ := hc i f hi
    exact ⟨b, off, hp, hb, h1, h2, h3⟩
/-- The rest of a row. -/
theorem XP.drop {w : World} {B b off : Nat} {l : List WI} (h : XP w B (some ⟨b, off, none⟩) l) (n : Nat) : XP w B (some ⟨b, off + n * 3, none⟩) (l.drop n) := by
  rcases h with rfl | ⟨b', off', hp, hb, hc⟩
  · exact .inl (by simp)
  · injection hp with hp
    injection hp with h1 h2
    subst h1; subst h2
    refine .inr ⟨_, _, rfl, hb, fun i x hx => ?_⟩
    rw [List.getElem?_drop] at hx
    have := hc (n + i) x hx
    rwa [show off + (n + i) * 3 = off + n * 3 + i * 3 by omega] at this
end Go.Proofs.Sch
namespace Go.Proofs.Ytcbboaoakgngkaa
open Go.RowKit Go.Proofs.Heap Go.Proofs.Sch Go.Proofs.Wide

/-- Whether all numbers fit their fields' kinds. -/
def fitRun : List Fld → List WI → Bool
  | [], _ => true
  | f :: r, vs => (vs.take f.count.toNat).all (fitsB f.kind) && fitRun r (vs.drop f.count.toNat)
/-- The error of a value. -/
def fitC (fs : List Fld) (vs : List WI) : Nat := if layC fs = 0 then (if vs.length = sumN fs then (if fitRun fs vs = true then 0 else 3) else 4) else layC fs

end Go.Proofs.Ytcbboaoakgngkaa

namespace Go.Proofs.Ytcbboaoakgngkaa
open Go.RowKit Go.Proofs.Heap Go.Proofs.Sch

/-- An element's cells. -/
def ecl (e : Int × Nat) : List Value := [.int .i64 e.1, iV e.2]
/-- The elements of a field that begins at a. -/
def eAdd (k : Int) (a sz n : Nat) : List (Int × Nat) := (List.range n).map (fun j => (k, a + sz * j))
def eStep (st : Nat × List (Int × Nat)) (f : Fld) : Nat × List (Int × Nat) := (upN st.1 (szN f.kind) + szN f.kind * f.count.toNat, st.2 ++ eAdd f.kind (upN st.1 (szN f.kind)) (szN f.kind) f.count.toNat)
/-- All elements of fields. -/
def eRun (fs : List Fld) : List (Int × Nat) := (fs.foldl eStep (0, [])).2

theorem eAdd_zero (k : Int) (a sz : Nat) : eAdd k a sz 0 = [] := rfl
theorem eAdd_next (k : Int) (a sz n : Nat) : eAdd k a sz (n + 1) = eAdd k a sz n ++ [(k, a + sz * n)] := by
  unfold eAdd; rw [List.range_succ, List.map_append]; rfl
theorem eAdd_len (k : Int) (a sz n : Nat) : (eAdd k a sz n).length = n := by simp [eAdd]
theorem eFold_at : ∀ (fs : List Fld) (a g : Nat) (es : List (Int × Nat)) (ss : List Nat), (fs.foldl eStep (a, es)).1 = (fs.foldl pStep (a, g, ss)).1
  | [], _, _, _, _ => rfl
  | f :: r, a, g, es, ss => by
    rw [List.foldl_cons, List.foldl_cons]
    exact eFold_at r _ _ _ _
theorem eRun_next {fs : List Fld} {k : Nat} {f : Fld} (h : fs[k]? = some f) : eRun (fs.take (k + 1)) = eRun (fs.take k) ++ eAdd f.kind (upN (pRun (fs.take k)).1 (szN f.kind)) (szN f.kind) f.count.toNat := by
  unfold eRun pRun
  rw [take_next h, List.foldl_append, List.foldl_cons, List.foldl_nil]
  unfold eStep
  rw [← eFold_at (fs.take k) 0 1 [] []]
  rfl
theorem eRun_len : ∀ (fs : List Fld), (eRun fs).length = sumN fs := by
  have key : ∀ (fs : List Fld) (st : Nat × List (Int × Nat)), (fs.foldl eStep st).2.length = st.2.length + sumN fs := by
    intro fs
    induction fs with
    | nil => intro st; simp [sumN]
    | cons f r ih =>
      intro st
      rw [List.foldl_cons, ih]
      simp only [eStep, List.length_append, eAdd_len, sumN]
      omega
  intro fs
  have := key fs (0, [])
  simpa [eRun] using this

/-- The multiple that is met first. -/
theorem upN_meet {a s x : Nat} (hs : 1 ≤ s) (h1 : a ≤ x) (h2 : x ≤ upN a s) (h3 : x % s = 0) : x = upN a s := by
  have hd := Nat.div_add_mod (a + s - 1) s
  have hm := Nat.mod_lt (a + s - 1) (show 0 < s by omega)
  have hx := Nat.div_add_mod x s
  have e : upN a s = s * ((a + s - 1) / s) := by unfold upN; rw [Nat.mul_comm]
  rw [e] at h2 ⊢
  rw [h3] at hx
  generalize (a + s - 1) / s = q at *
  generalize x / s = t at *
  have h4 : s * t < s * q + s → t < q + 1 := fun h => Nat.lt_of_mul_lt_mul_left (a := s) (by rw [Nat.mul_add]; omega)
  have h5 : s * q < s * t + s → q < t + 1 := fun h => Nat.lt_of_mul_lt_mul_left (a := s) (by rw [Nat.mul_add]; omega)
  have : t = q := by
    have h6 := h4 (by omega)
    have h7 := h5 (by omega)
    omega
  subst this
  omega
theorem upN_dvd (a s : Nat) : upN a s % s = 0 := by unfold upN; exact Nat.mul_mod_left ..
theorem upN_ge {a s : Nat} (hs : 1 ≤ s) : a ≤ upN a s := by
  have hd := Nat.div_add_mod (a + s - 1) s
  have hm := Nat.mod_lt (a + s - 1) (show 0 < s by omega)
  unfold upN
  rw [Nat.mul_comm]
  omega

/-- The reference's two rows under way: the elements, where fields begin. -/
structure LY (w : World) (v6 v7 : Value) (es : List (Int × Nat)) (ss : List Nat) (y : World) : Prop where
  keep : Keep (fun _ => False) w y
  o6 : y.ownsRow w.heap.size 139 2 v6 es.length (es.flatMap ecl)
  o7 : y.ownsRow w.heap.size 3 1 v7 ss.length (ss.map iV)
  dis : ∀ g, v6.ownBlock = some g → v7.ownBlock = some g → False
/-- A field's box beside them. -/
structure LB (v6 v7 : Value) (bx : Nat) (f : Fld) (y : World) : Prop where
  box : y.heap[bx]? = some (.cells #[.string f.name, .int .i64 f.kind, .int .i64 f.count] 69 (0, 0))
  n6 : v6.ownBlock ≠ some bx
  n7 : v7.ownBlock ≠ some bx

section
variable {w y y' : World} {v6 v7 v' : Value} {es : List (Int × Nat)} {ss : List Nat} {bx : Nat} {f : Fld}
theorem LY.keep0 (h : LY w v6 v7 es ss y) (hk : Keep (fun _ => False) y y') : LY w v6 v7 es ss y' :=
  ⟨h.keep.trans hk, owns_keep h.o6 (fun q hq => hk.block q (h.o6.lt q hq).2 id), owns_keep h.o7 (fun q hq => hk.block q (h.o7.lt q hq).2 id), h.dis⟩
theorem LB.keep0 (h : LB v6 v7 bx f y) (hk : Keep (fun _ => False) y y') : LB v6 v7 bx f y' := ⟨hk.get h.box id, h.n6, h.n7⟩
theorem LY.newBox (h : LY w v6 v7 es ss y) (f : Fld) : LB v6 v7 y.heap.size f (y.alloc (.cells #[.string f.name, .int .i64 f.kind, .int .i64 f.count] 69)) :=
  ⟨heap_alloc_new y _, fun e => by have := (h.o6.lt _ e).2; omega, fun e => by have := (h.o7.lt _ e).2; omega⟩
theorem LY.app6 (h : LY w v6 v7 es ss y) (hb : LB v6 v7 bx f y) {e : Int × Nat} (hown : y'.ownsRow w.heap.size 139 2 v' (es.length + 1) (es.flatMap ecl ++ ecl e)) (hg : y.grownBy y' v6.ownBlock) (ha : v'.ownBlock = v6.ownBlock ∨ v'.ownBlock = some y.heap.size) :
    LY w v' v7 (es ++ [e]) ss y' ∧ LB v' v7 bx f y' := by
  have hk : Keep (fun q => v6.ownBlock = some q) y y' := (Keep.refl _ y).grown hg (fun k hk => .inr hk)
  refine ⟨⟨h.keep.trans' hk (fun i hi e => by have := (h.o6.lt _ e).1; omega), by simpa using hown, owns_keep h.o7 (fun q hq => hk.block q (h.o7.lt q hq).2 (fun e => h.dis q e hq)), fun g h1 h2 => ?_⟩, hk.get hb.box hb.n6, fun e => ?_, hb.n7⟩
  · rcases ha with ha | ha
    · exact h.dis g (ha ▸ h1) h2
    · rw [ha] at h1
      injection h1 with h1
      have := (h.o7.lt g h2).2
      omega
  · rcases ha with ha | ha
    · exact hb.n6 (ha ▸ e)
    · rw [ha] at e
      injection e with e
      have := lt_of_heap hb.box
      omega
theorem LY.app7 (h : LY w v6 v7 es ss y) (hb : LB v6 v7 bx f y) {a : Nat} (hown : y'.ownsRow w.heap.size 3 1 v' (ss.length + 1) (ss.map iV ++ [iV a])) (hg : y.grownBy y' v7.ownBlock) (ha : v'.ownBlock = v7.ownBlock ∨ v'.ownBlock = some y.heap.size) :
    LY w v6 v' es (ss ++ [a]) y' ∧ LB v6 v' bx f y' := by
  have hk : Keep (fun q => v7.ownBlock = some q) y y' := (Keep.refl _ y).grown hg (fun k hk => .inr hk)
  refine ⟨⟨h.keep.trans' hk (fun i hi e => by have := (h.o7.lt _ e).1; omega), owns_keep h.o6 (fun q hq => hk.block q (h.o6.lt q hq).2 (fun e => h.dis q hq e)), by simpa using hown, fun g h1 h2 => ?_⟩, hk.get hb.box hb.n7, hb.n6, fun e => ?_⟩
  · rcases ha with ha | ha
    · exact h.dis g h1 (ha ▸ h2)
    · rw [ha] at h2
      injection h2 with h2
      have := (h.o6.lt g h1).2
      omega
  · rcases ha with ha | ha
    · exact hb.n7 (ha ▸ e)
    · rw [ha] at e
      injection e with e
      have := lt_of_heap hb.box
      omega
/-- A block more for what is appended. -/
theorem Keep.grown_alloc {w y y' : World} {o : Obj} {row : Option Nat} (hg : (y.alloc o).grownBy y' row) (hr : ∀ k, row = some k → w.heap.size ≤ k) (hk : Keep (fun _ => False) w y) : Keep (fun _ => False) w y' :=
  (hk.alloc o).grown hg (fun k h => .inl (hr k h))
end
theorem info_elem : (Try.prog.info? 139).map (fun i => (i.zero, i.size, i.bytes)) = some (some (.agg #[.int .i64 0, .int .i64 0]), 2, 16) := by kernel_rfl
end Go.Proofs.Ytcbboaoakgngkaa

namespace Go.Proofs.Ytcbboaoakgngkaa
open Go.RowKit Go.Proofs.Heap

theorem sizeK_out {k : Int} (h : k < 1 ∨ 10 < k) : sizeK k = 0 := by
  unfold sizeK
  rw [if_neg (by omega), if_neg (by omega), if_neg (by omega), if_neg (by omega)]

abbrev NB : Array Value := #[.int .i64 0, .int .i64 1, .int .i64 1, .int .i64 2, .int .i64 4, .int .i64 8, .int .i64 1, .int .i64 2, .int .i64 4, .int .i64 8, .int .i64 8]

set_option maxRecDepth 20000 in
set_option maxHeartbeats 2000000 in
theorem r_bytes (k : Int) (w : World) : Calls Try.prog 82 #[.int .i64 k] w fun r w' => r = .returned (.int .i64 (sizeK k)) ∧ Keep (fun _ => False) w w' := by
  go_enter Try.func82, Try.ntmps82
  by_cases h1 : k < 1
  · have g1 : decide (k < 1) = true := decide_eq_true h1
    have G := hid (sizeK_out (.inl h1))
    clear h1
    go_wp2
    go_ret
    exact ⟨by rw [G.out]; rfl, Keep.refl _ _⟩
  have g1 : decide (k < 1) = false := decide_eq_false h1
  by_cases h2 : 10 < k
  · have g2 : decide (10 < k) = true := decide_eq_true h2
    have G := hid (sizeK_out (.inr h2))
    clear h1 h2
    go_wp2
    go_ret
    exact ⟨by rw [G.out]; rfl, Keep.refl _ _⟩
  have g2 : decide (10 < k) = false := decide_eq_false h2
  have hb := heap_alloc_new w (.cells NB 155)
  have HK := hid ((Keep.refl (fun _ => False) w).alloc (.cells NB 155))
  have HB := hid hb
  clear hb
  have hc : k = 1 ∨ k = 2 ∨ k = 3 ∨ k = 4 ∨ k = 5 ∨ k = 6 ∨ k = 7 ∨ k = 8 ∨ k = 9 ∨ k = 10 := by omega
  clear h1 h2
  go_upto_region 4 with fail
  generalize w.alloc (.cells NB 155) = w1 at *
  generalize w.heap.size = b at *
  clear g1 g2
  rcases hc with rfl | rfl | rfl | rfl | rfl | rfl | rfl | rfl | rfl | rfl
  · have c : w1.cell? ⟨b, 1, none⟩ = some (.int .i64 1) := cell_of HB.out (by rfl)
    go_wp2
    go_ret
    exact ⟨by rfl, HK.out⟩
  · have c : w1.cell? ⟨b, 2, none⟩ = some (.int .i64 1) := cell_of HB.out (by rfl)
    go_wp2
    go_ret
    exact ⟨by rfl, HK.out⟩
  · have c : w1.cell? ⟨b, 3, none⟩ = some (.int .i64 2) := cell_of HB.out (by rfl)
    go_wp2
    go_ret
    exact ⟨by rfl, HK.out⟩
  · have c : w1.cell? ⟨b, 4, none⟩ = some (.int .i64 4) := cell_of HB.out (by rfl)
    go_wp2
    go_ret
    exact ⟨by rfl, HK.out⟩
  · have c : w1.cell? ⟨b, 5, none⟩ = some (.int .i64 8) := cell_of HB.out (by rfl)
    go_wp2
    go_ret
    exact ⟨by rfl, HK.out⟩
  · have c : w1.cell? ⟨b, 6, none⟩ = some (.int .i64 1) := cell_of HB.out (by rfl)
    go_wp2
    go_ret
    exact ⟨by rfl, HK.out⟩
  · have c : w1.cell? ⟨b, 7, none⟩ = some (.int .i64 2) := cell_of HB.out (by rfl)
    go_wp2
    go_ret
    exact ⟨by rfl, HK.out⟩
  · have c : w1.cell? ⟨b, 8, none⟩ = some (.int .i64 4) := cell_of HB.out (by rfl)
    go_wp2
    go_ret
    exact ⟨by rfl, HK.out⟩
  · have c : w1.cell? ⟨b, 9, none⟩ = some (.int .i64 8) := cell_of HB.out (by rfl)
    go_wp2
    go_ret
    exact ⟨by rfl, HK.out⟩
  · have c : w1.cell? ⟨b, 10, none⟩ = some (.int .i64 8) := cell_of HB.out (by rfl)
    go_wp2
    go_ret
    exact ⟨by rfl, HK.out⟩
end Go.Proofs.Ytcbboaoakgngkaa
