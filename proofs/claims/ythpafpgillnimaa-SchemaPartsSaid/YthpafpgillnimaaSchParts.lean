/- What is proved: what CheckParts of the schema's layer answers. -/
import Derived.Test.YthpafpgillnimaaSchPart
namespace Go.Proofs.Ythpafpgillnimaa
open Go.RowKit Go.Proofs.Heap Go.Proofs.Sch Go.Proofs.Wide

theorem PP.take {w : World} {B : Nat} {p : Option Addr} {l : List Prt} (h : PP w B p l) (k : Nat) : PP w B p (l.take k) := by
  rcases h with rfl | ⟨b, off, hp, hb, hc⟩
  · exact .inl (by simp)
  · refine .inr ⟨b, off, hp, hb, fun i x hx => hc i x ?_⟩
    rw [List.getElem?_take] at hx
    split at hx
    · exact hx
    · cases hx

/-- The error of the parts that are left. -/
def partsC (cs : List Cmp) : List Int → List Prt → Nat
  | _, [] => 0
  | seen, x :: r => if seen.any (fun c => decide (c = x.comp)) = true then 1 else if partC cs x = 0 then partsC cs (seen ++ [x.comp]) r else partC cs x

theorem part_clo (x : Prt) (q : Option Addr) (c : Nat) (cb : Nat) (id : Int) (w : World) (hc : w.cell? ⟨cb, 0, none⟩ = some (.int .i64 id)) :
    Calls Try.prog 45 #[.agg #[.int .i64 x.comp, .slice q x.vals.length c], .pointer (some ⟨cb, 0, none⟩)] w fun r w' => r = .returned (.bool (decide (x.comp = id))) ∧ Keep (fun _ => False) w w' := by
  have hk := (Keep.refl (fun _ => False) w).alloc (.cells #[.int .i64 x.comp, .slice q x.vals.length c] 50)
  have HK := hid hk
  have hlt := World.block_lt_of_cell? w _ hc
  have hc2 := ((Low.keep0 hk).cell (o := 0) hlt).trans hc
  have HD : Hid ((x.comp == id) = decide (x.comp = id)) := hid (by cases h : decide (x.comp = id) <;> simp_all)
  clear hk
  go_enter Try.func45, Try.ntmps45
  go_wp2
  go_ret
  exact ⟨by first | rfl | (rw [← HD.out]; rfl), HK.out⟩

set_option maxRecDepth 20000 in
set_option maxHeartbeats 2000000 in
theorem idx_parts (id : Int) (cb : Nat) (l : List Prt) (n : Nat) (p : Option Addr) (cap : Nat) (w : World) (hn : l.length = n) (hl : n ≤ 65536) (hf : PP w w.heap.size p l) (hc : w.cell? ⟨cb, 0, none⟩ = some (.int .i64 id)) :
    Calls Try.prog 54 #[.slice p n cap, .func (.func 45) #[] #[.pointer (some ⟨cb, 0, none⟩)]] w fun r w' => r = .returned (.int .i64 (idxI (fun x => decide (x.comp = id)) l)) ∧ Keep (fun _ => False) w w' := by
  have HF := hid hf
  have HQ : Hid (∀ (x : Prt) (q : Option Addr) (c : Nat) (wy : World), Keep (fun _ => False) w wy → Calls Try.prog 45 #[.agg #[.int .i64 x.comp, .slice q x.vals.length c], .pointer (some ⟨cb, 0, none⟩)] wy fun r w' => r = .returned (.bool ((fun x : Prt => decide (x.comp = id)) x)) ∧ Keep (fun _ => False) wy w') :=
    hid (fun x q c wy hk => part_clo x q c cb _ wy (((Low.keep0 hk).cell (o := 0) (World.block_lt_of_cell? w _ hc)).trans hc))
  obtain ⟨q, hqe⟩ : ∃ q : Prt → Bool, q = (fun x : Prt => decide (x.comp = id)) := ⟨_, rfl⟩
  rw [← hqe] at HQ
  rw [← hqe]
  have HN := hid hn
  clear hf hc hqe hn
  go_enter Try.func54, Try.ntmps54
  go_wp2_with fail
  go_loopw [5, 8] (fun _ i wr => ∃ k : Nat, k ≤ n ∧ i = iV k ∧ Keep (fun _ => False) w wr ∧ ∀ c ∈ l.take k, q c = false) (fun _ i _ => n + 1 - (intOf i).toNat)
  case atStart => exact ⟨0, by omega, rfl, Keep.refl _ _, by simp⟩
  case round =>
    obtain ⟨k, hk, rfl, hkeep, hall⟩ := hrel
    have HK := hid hkeep; have HA := hid hall
    clear hkeep hall
    by_cases hlt : k < n
    · obtain ⟨c, hck⟩ : ∃ c, l[k]? = some c := ⟨l[k]'(by have := HN.out; omega), by simp [show k < l.length by have := HN.out; omega]⟩
      obtain ⟨b, off, fq, fk, rfl, hb, c0, c1, _, _⟩ := PP.at (PP.low HF.out (Low.keep0 HK.out)) hck
      have hin : (0 : Int) ≤ (k : Int) ∧ (k : Int) < (n : Int) := ⟨by omega, by omega⟩
      have HCK := hid hck
      clear hck
      go_wp2_with fail
      refine (HQ.out c fq fk _ HK.out).mono ?_
      rintro r w1 ⟨rfl, hk1⟩
      have HK1 := hid (HK.out.trans hk1)
      clear hk1
      cases hqc : q c
      · have HNX : Hid (∀ d ∈ l.take (k + 1), q d = false) := hid (fun d hd => by
          rw [take_next HCK.out] at hd
          rcases List.mem_append.1 hd with h | h
          · exact HA.out d h
          · rw [List.mem_singleton.1 h]; exact hqc)
        clear hqc
        go_wp2
        go_roundw
        case rel => exact ⟨k + 1, by omega, by go_num, HK1.out, HNX.out⟩
        case measure => simp [intOf]; omega
      · have G3 := hid (idx_at HCK.out hqc HA.out)
        clear hqc
        go_wp2
        go_ret
        exact ⟨by rw [G3.out]; rfl, HK1.out⟩
    · obtain rfl : k = n := by omega
      have G3 := hid (idx_none (q := q) (l := l) (by have := HA.out; rwa [List.take_of_length_le (by have := HN.out; omega)] at this))
      go_wp2
      go_ret
      exact ⟨by rw [G3.out]; rfl, HK.out⟩

theorem contains_parts (id : Int) (cb : Nat) (l : List Prt) (n : Nat) (p : Option Addr) (cap : Nat) (w : World) (hn : l.length = n) (hl : n ≤ 65536) (hf : PP w w.heap.size p l) (hc : w.cell? ⟨cb, 0, none⟩ = some (.int .i64 id)) :
    Calls Try.prog 44 #[.slice p n cap, .func (.func 45) #[] #[.pointer (some ⟨cb, 0, none⟩)]] w fun r w' => r = .returned (.bool ((l.map (·.comp)).any (fun c => decide (c = id)))) ∧ Keep (fun _ => False) w w' := by
  have HN := hid hn; have HF := hid hf; have HC := hid hc
  clear hn hf hc
  go_enter Try.func44, Try.ntmps44
  go_wp2_with fail
  refine (idx_parts id cb l n p cap _ HN.out hl HF.out HC.out).mono ?_
  rintro r w1 ⟨rfl, hk1⟩
  have HK := hid hk1
  have hcs := idx_cases (fun x : Prt => decide (x.comp = id)) l
  have HF2 := hid (find_of_idx (q := fun x : Prt => decide (x.comp = id)) (l := l))
  clear hk1
  generalize hz : idxI (fun x : Prt => decide (x.comp = id)) l = z at *
  clear hz
  rcases hcs with h | ⟨k, x, h, hx, hqx, _⟩
  · subst h
    have G : Hid ((l.map (·.comp)).any (fun c => decide (c = id)) = false) := hid (by
      have := HF2.out.1 rfl
      rw [List.find?_eq_none] at this
      rw [List.any_eq_false]
      intro c hc
      obtain ⟨x, hx, rfl⟩ := List.mem_map.1 hc
      exact this x hx)
    go_wp2
    go_ret
    exact ⟨by rw [G.out]; rfl, HK.out⟩
  · subst h
    have G : Hid ((l.map (·.comp)).any (fun c => decide (c = id)) = true) := hid (by
      rw [List.any_eq_true]
      exact ⟨x.comp, List.mem_map.2 ⟨x, List.mem_of_getElem? hx, rfl⟩, hqx⟩)
    have g1 : decide ((0 : Int) ≤ (k : Int)) = true := decide_eq_true (by omega)
    clear hx hqx
    go_wp2
    go_ret
    exact ⟨by rw [G.out]; rfl, HK.out⟩

set_option maxRecDepth 20000 in
set_option maxHeartbeats 4000000 in
theorem check_parts (v : Int) (cs : List Cmp) (p : Option Addr) (cap : Nat) (l : List Prt) (q : Option Addr) (qc : Nat) (w : World) (hl : Small cs) (hll : l.length ≤ 65536) (hqc : l.length ≤ qc) (hvl : ∀ x ∈ l, x.vals.length ≤ 65536 ∧ ∀ y ∈ x.vals, y.fit) (hf : CP w w.heap.size p cs) (hv : PP w w.heap.size q l) :
    Calls Try.prog 25 #[.agg #[.int .i64 v, .slice p cs.length cap], .slice q l.length qc] w fun r w' => r = .returned (iV (partsC cs [] l)) ∧ Keep (fun _ => False) w w' := by
  have hk0 := (Keep.refl (fun _ => False) w).alloc (.cells #[.int .i64 v, .slice p cs.length cap] 24)
  have HB0 := hid (heap_alloc_new w (.cells #[.int .i64 v, .slice p cs.length cap] 24))
  have HF := hid (CP.mono (CP.low hf (Low.keep0 hk0)) hk0.size)
  have HV := hid (PP.mono (PP.low hv (Low.keep0 hk0)) hk0.size)
  have HK0 := hid hk0; have HL := hid hl; have HVL := hid hvl
  clear hf hv hk0 hl hvl
  go_enter Try.func25, Try.ntmps25
  go_upto_region 1 with fail
  generalize w.alloc (.cells #[.int .i64 v, .slice p cs.length cap] 24) = w0 at *
  generalize hsb : w.heap.size = sb at *
  go_wp2_with fail
  go_loopw [5, 6, 7, 10] (fun _ _ _ i wr => ∃ k : Nat, k ≤ l.length ∧ i = iV k ∧ Keep (fun _ => False) w0 wr ∧ partsC cs [] l = partsC cs ((l.take k).map (·.comp)) (l.drop k)) (fun _ _ _ i _ => l.length + 1 - (intOf i).toNat)
  case atStart => exact ⟨0, by omega, rfl, Keep.refl _ _, rfl⟩
  case round =>
    obtain ⟨k, hk, rfl, hkeep, hpc⟩ := hrel
    have HK := hid hkeep; have HPC := hid hpc
    clear hkeep hpc
    by_cases hlt : k < l.length
    · obtain ⟨x, hx⟩ : ∃ x, l[k]? = some x := ⟨l[k], by simp [hlt]⟩
      obtain ⟨b, off, fq, fk, rfl, hb, c0, c1, hle, hxp⟩ := PP.at (PP.low HV.out (Low.keep0 HK.out)) hx
      have hin : (0 : Int) ≤ (k : Int) ∧ (k : Int) < (l.length : Int) := ⟨by omega, by omega⟩
      have hin0 : (0 : Int) ≤ (k : Int) ∧ (k : Int) ≤ (qc : Int) := ⟨by omega, by omega⟩
      have hpn : partsC cs [] l = (if ((l.take k).map (·.comp)).any (fun c => decide (c = x.comp)) = true then 1 else if partC cs x = 0 then partsC cs ((l.take (k + 1)).map (·.comp)) (l.drop (k + 1)) else partC cs x) := by
        rw [HPC.out, drop_next hx, take_next hx, List.map_append]; rfl
      have hxv := HVL.out x (List.mem_of_getElem? hx)
      have hk2 := (Keep.refl (fun _ => False) wr).alloc (.cells #[.int .i64 x.comp, .slice fq x.vals.length fk] 50)
      have HK2 := hid (HK.out.trans hk2)
      have HCB := hid (heap_alloc_new wr (.cells #[.int .i64 x.comp, .slice fq x.vals.length fk] 50))
      have HPN := hid hpn; have HXV := hid hxv
      have HXP := hid (XP.low hxp (Low.of_keep hk2 HK.out.size (fun _ h => h.elim)))
      have HTL : Hid ((l.take k).length = k) := hid (by rw [List.length_take]; omega)
      clear hx hpn hxv hxp hk2 HPC
      go_upto_region 4 with fail
      generalize wr.alloc (.cells #[.int .i64 x.comp, .slice fq x.vals.length fk] 50) = wa at *
      have HPT := hid (PP.mono (PP.low (PP.take HV.out k) (Low.keep0 HK2.out)) HK2.out.size)
      generalize wr.heap.size = cb at *
      have HC : Hid (wa.cell? ⟨cb, 0, none⟩ = some (.int .i64 x.comp)) := hid (cell_of HCB.out (by rfl))
      clear c0 c1
      go_wp2_with fail
      refine (contains_parts x.comp cb (l.take k) k _ qc _ HTL.out (by omega) HPT.out HC.out).mono ?_
      rintro r w1 ⟨rfl, hk1⟩
      have HK1 := hid (HK2.out.trans hk1)
      have HCB1 := hid (hk1.get HCB.out (fun h => h))
      have HXP1 := hid (XP.mono (XP.low HXP.out (Low.of_keep hk1 HK2.out.size (fun _ h => h.elim))) HK1.out.size)
      clear hk1
      generalize ((l.take k).map (·.comp)).any (fun c => decide (c = x.comp)) = bb at *
      cases bb
      rotate_left
      · have G : Hid (partsC cs [] l = 1) := hid (by rw [HPN.out]; rfl)
        go_wp2
        go_ret
        exact ⟨by rw [G.out]; rfl, HK0.out.trans HK1.out⟩
      have HPN2 : Hid (partsC cs [] l = if partC cs x = 0 then partsC cs ((l.take (k + 1)).map (·.comp)) (l.drop (k + 1)) else partC cs x) := hid (by rw [HPN.out]; rfl)
      clear HPN
      have e0 : w1.cell? ⟨cb, 0, none⟩ = some (.int .i64 x.comp) := cell_of HCB1.out (by rfl)
      have e1 : w1.cell? ⟨cb, 1, none⟩ = some (.slice fq x.vals.length fk) := cell_of HCB1.out (by rfl)
      have e2 : w1.cell? ⟨sb, 0, none⟩ = some (.int .i64 v) := cell_of (HK1.out.get HB0.out (fun h => h)) (by rfl)
      have e3 : w1.cell? ⟨sb, 1, none⟩ = some (.slice p cs.length cap) := cell_of (HK1.out.get HB0.out (fun h => h)) (by rfl)
      have HF1 := hid (CP.mono (CP.low HF.out (Low.keep0 HK1.out)) HK1.out.size)
      go_wp2_with fail
      refine (check_part v cs p cap x fq fk _ HL.out HXV.out.1 hle HXV.out.2 HF1.out HXP1.out).mono ?_
      rintro r w2 ⟨rfl, hk2⟩
      have HK3 := hid (HK1.out.trans hk2)
      clear hk2 e0 e1 e2 e3
      generalize hz : partC cs x = z at *
      clear hz
      by_cases h0 : z = 0
      · have g1 : ((z : Int) == 0) = true := beq_iff_eq.2 (by omega)
        have g2 : (z == 0) = true := beq_iff_eq.2 h0
        have g3 : ((z : Int) != 0) = false := by rw [bne, g1]; rfl
        have g4 : (z != 0) = false := by rw [bne, g2]; rfl
        have G := hid (HPN2.out.trans (if_pos h0))
        clear h0 HPN2
        go_wp2
        go_roundw
        case rel => exact ⟨k + 1, by omega, by go_num, HK3.out, G.out⟩
        case measure => simp [intOf]; omega
      · have g1 : ((z : Int) == 0) = false := beq_eq_false_iff_ne.2 (by omega)
        have g2 : (z == 0) = false := beq_eq_false_iff_ne.2 h0
        have g3 : ((z : Int) != 0) = true := by rw [bne, g1]; rfl
        have g4 : (z != 0) = true := by rw [bne, g2]; rfl
        have G := hid (HPN2.out.trans (if_neg h0))
        clear h0 HPN2
        go_wp2
        go_ret
        exact ⟨by rw [G.out]; rfl, HK0.out.trans HK3.out⟩
    · obtain rfl : k = l.length := by omega
      have G : Hid (partsC cs [] l = 0) := hid (by rw [HPC.out, List.drop_length]; rfl)
      go_wp2
      go_ret
      exact ⟨by rw [G.out]; rfl, HK0.out.trans HK.out⟩

end Go.Proofs.Ythpafpgillnimaa
