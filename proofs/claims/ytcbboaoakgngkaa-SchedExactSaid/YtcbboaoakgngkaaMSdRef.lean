/- What is proved: what the reference's Order of a row of systems answers: what the program's Order answers. -/
import Derived.Test.YtcbboaoakgngkaaMSdOrder
import Derived.Test.YtcbboaoakgngkaaMRf22d
namespace Go.Proofs.Ytcbboaoakgngkaa
open Go.RowKit Go.Proofs.Heap Go.Proofs.Sch

set_option maxRecDepth 20000 in
set_option maxHeartbeats 4000000 in
theorem r_find25 (l : List VSys) (t : ByteArray) (q : Option Addr) (qc : Nat) (w : World) (hl : l.length ≤ 65536) (hs : SP w w.heap.size q l) :
    Calls Try.prog 49 #[.slice q l.length qc, .string t] w fun r w' => r = .returned (.int .i64 (fnS l t)) ∧ w = w' := by
  have HS := hid hs
  have HF : Hid (fnS l t = idxI (fun x : VSys => decide (x.name = t)) l) := hid rfl
  generalize fnS l t = R at *
  clear hs
  go_enter Try.func49, Try.ntmps49
  go_wp2_with fail
  go_loopw [5] (fun i wr => ∃ k : Nat, k ≤ l.length ∧ i = iV k ∧ w = wr ∧ ∀ c ∈ l.take k, decide (c.name = t) = false) (fun i _ => l.length + 1 - (intOf i).toNat)
  case atStart => exact ⟨0, by omega, rfl, rfl, by simp⟩
  case round =>
    obtain ⟨k, hk, rfl, rfl, hall⟩ := hrel
    have HA := hid hall
    clear hall
    by_cases hlt : k < l.length
    · obtain ⟨x, hxk⟩ : ∃ x, l[k]? = some x := ⟨l[k], by simp [hlt]⟩
      obtain ⟨b, off, rfl⟩ := sp_some HS.out hlt
      have e0 := sys_name HS.out hlt
      rw [nmS_at hxk] at e0
      have hin : (0 : Int) ≤ (k : Int) ∧ (k : Int) < (l.length : Int) := ⟨by omega, by omega⟩
      have hsq := seq_dec x.name t
      have HCK := hid hxk
      clear hxk
      cases hqc : decide (x.name = t)
      · have HN : Hid (∀ d ∈ l.take (k + 1), decide (d.name = t) = false) := hid (fun d hd => by
          rw [take_next HCK.out] at hd
          rcases List.mem_append.1 hd with h | h
          · exact HA.out d h
          · rw [List.mem_singleton.1 h]; exact hqc)
        rw [hqc] at hsq
        clear hqc
        go_wp2
        go_roundw
        case rel => exact ⟨k + 1, by omega, by go_num, by first | rfl | trivial, HN.out⟩
        case measure => simp [intOf]; omega
      · have G3 := hid (idx_at (q := fun x : VSys => decide (x.name = t)) HCK.out hqc HA.out)
        rw [hqc] at hsq
        clear hqc
        go_wp2
        go_ret
        exact ⟨by rw [HF.out, G3.out]; rfl, rfl⟩
    · obtain rfl : k = l.length := by omega
      have g1 : decide ((l.length : Int) < (l.length : Int)) = false := decide_eq_false (by omega)
      have g2 : decide (l.length < l.length) = false := decide_eq_false (by omega)
      have G3 := hid (idx_none (q := fun x : VSys => decide (x.name = t)) (l := l) (by have := HA.out; rwa [List.take_length] at this))
      go_wp2
      go_ret
      exact ⟨by rw [HF.out, G3.out]; rfl, rfl⟩

theorem ord_run {l : List VSys} (h : checkS l = 0) (k : linksS l = 0) : (runS l l.length [] = none → ordE l = 7 ∧ ordL l = []) ∧ ∀ o, runS l l.length [] = some o → ordE l = 0 ∧ ordL l = o := by
  have he := order_eq (ok_of h k)
  unfold ordE ordL
  rw [h, k]
  by_cases hlt : (accP l 10).length < l.length
  · rw [if_pos hlt] at he
    refine ⟨fun _ => ⟨by simp [hlt], by simp [hlt]⟩, fun o ho => (by rw [he] at ho; cases ho)⟩
  · rw [if_neg hlt] at he
    refine ⟨fun ho => (by rw [he] at ho; cases ho), fun o ho => ?_⟩
    rw [he] at ho
    injection ho with ho
    exact ⟨by simp [hlt], by subst ho; simp [hlt]⟩
theorem info_boolS : (Try.prog.info? 4).map (fun i => (i.zero, i.size, i.bytes)) = some (some (.bool false), 1, 1) := by kernel_rfl
theorem made_bools (n : Nat) : madeCells #[Value.bool false] n = Array.replicate n (Value.bool false) := by
  apply Array.ext_getElem?
  intro i
  by_cases hi : i < n
  · simp [madeCells, hi, Nat.mod_one]
  · simp [madeCells, hi]
/-- Who is done. -/
def dnL (l : List VSys) (out : List Nat) : List Bool := (List.range l.length).map out.contains
abbrev bVS (b : Bool) : Value := .bool b
theorem dn_at {l : List VSys} {out : List Nat} {i : Nat} (h : i < l.length) : (dnL l out)[i]? = some (out.contains i) := by
  unfold dnL
  rw [List.getElem?_map, List.getElem?_range h]; rfl
theorem dn_set {l : List VSys} {out : List Nat} {i : Nat} (h : i < l.length) : (dnL l out).set i true = dnL l (out ++ [i]) := by
  have hlen : (dnL l out).length = l.length := by unfold dnL; rw [List.length_map, List.length_range]
  apply List.ext_getElem?
  intro j
  by_cases e : i = j
  · subst e
    rw [List.getElem?_set_self (by rw [hlen]; exact h), dn_at h, (has_c _ _).2 (List.mem_append.2 (.inr (by simp)))]
  · rw [List.getElem?_set_ne e]
    by_cases hj : j < l.length
    · rw [dn_at hj, dn_at hj, cont_app, decide_eq_false (Ne.symm e), Bool.or_false]
    · rw [List.getElem?_eq_none (by rw [hlen]; omega), List.getElem?_eq_none (by unfold dnL; rw [List.length_map, List.length_range]; omega)]
theorem dn_zero (l : List VSys) : dnL l [] = List.replicate l.length false := by
  unfold dnL
  apply List.ext_getElem?
  intro j
  rw [List.getElem?_map, List.getElem?_replicate]
  by_cases hj : j < l.length
  · rw [List.getElem?_range hj, if_pos hj]; rfl
  · rw [List.getElem?_eq_none (by rw [List.length_range]; omega), if_neg hj]; rfl
def mnK (l : List VSys) (out : List Nat) (k : Nat) : Int := (List.range k).foldl (minF l out) 99
theorem mnK_next (l : List VSys) (out : List Nat) (k : Nat) : mnK l out (k + 1) = if out.contains k = false ∧ stS l k < mnK l out k then stS l k else mnK l out k := by
  unfold mnK
  rw [List.range_succ, List.foldl_append]; rfl
def bsK (l : List VSys) (out : List Nat) (s : Int) (k : Nat) : Option Nat := leastS l ((List.range k).filter (canS l out s))
theorem bsK_next (l : List VSys) (out : List Nat) (s : Int) (k : Nat) : bsK l out s (k + 1) = if canS l out s k = true then bestF l (bsK l out s k) k else bsK l out s k := by
  unfold bsK leastS
  rw [List.range_succ, List.filter_append, List.foldl_append]
  cases h : canS l out s k
  · rw [List.filter_cons_of_neg (by rw [h]; simp), if_neg Bool.false_ne_true]; rfl
  · rw [List.filter_cons_of_pos h, if_pos rfl]; rfl
theorem bsK_lt {l : List VSys} {out : List Nat} {s : Int} {k i : Nat} (h : bsK l out s k = some i) : i < k := by
  have := (least_some h).1
  exact List.mem_range.1 (List.mem_filter.1 this).1
def optV (o : Option Nat) : Value := match o with
  | none => .int .i64 (-1)
  | some i => iV i
/-- May, after m of those ahead were asked. -/
def myS (l : List VSys) (out : List Nat) (s : Int) (i m : Nat) : Bool := (!out.contains i && decide (stS l i = s)) && ((afS l i).take m).all (fun a => out.contains (fdS l a))
theorem my_zero (l : List VSys) (out : List Nat) (s : Int) (i : Nat) : myS l out s i 0 = (!out.contains i && decide (stS l i = s)) := by unfold myS; rw [List.take_zero, List.all_nil, Bool.and_true]
theorem my_next {l : List VSys} {out : List Nat} {s : Int} {i m : Nat} {a : ByteArray} (h : (afS l i)[m]? = some a) : myS l out s i (m + 1) = (myS l out s i m && out.contains (fdS l a)) := by
  unfold myS
  rw [take_next h, List.all_append, ← Bool.and_assoc]
  simp only [List.all_cons, List.all_nil, Bool.and_true]
theorem my_end (l : List VSys) (out : List Nat) (s : Int) (i : Nat) : myS l out s i (afS l i).length = canS l out s i := by
  unfold myS canS
  rw [List.take_length, Bool.and_assoc]
theorem sys_after_at {w : World} {B : Nat} {b off : Nat} {l : List VSys} (h : SP w B (some ⟨b, off, none⟩) l) {m : Nat} (hm : m < l.length) : b < B ∧ ∃ pa ca, w.cell? ⟨b, off + m * 6 + 2, none⟩ = some (.slice pa (afS l m).length ca) ∧ TP w B pa (afS l m) := by
  obtain ⟨u, hu⟩ : ∃ u, l[m]? = some u := ⟨l[m], by simp [hm]⟩
  obtain ⟨b', off', pa, ca, _, _, hp, hb', _, _, d2, _, _, _, _, _, _, ht, _⟩ := SP.at h hu
  injection hp with hp
  injection hp with e1 e2
  subst e1; subst e2
  rw [afS_at hu]; exact ⟨hb', pa, ca, d2, ht⟩

set_option maxRecDepth 20000 in
set_option maxHeartbeats 32000000 in
theorem r_order (l : List VSys) (q : Option Addr) (qc : Nat) (w : World) (hs : SP w w.heap.size q l) :
    Calls Try.prog 26 #[.slice q l.length qc] w fun r w' => ∃ a c, r = .returned (.tuple #[.slice a (ordL l).length c, iV (ordE l)]) ∧ w'.ownsRow w.heap.size 3 1 (.slice a (ordL l).length c) (ordL l).length ((ordL l).map iV) ∧ Keep (fun _ => False) w w' := by
  have HSP : Hid (∀ wy, Keep (fun _ => False) w wy → SP wy wy.heap.size q l) := hid (fun wy hk => SP.mono (SP.low hs (Low.keep0 hk)) hk.size)
  have HE : Hid (ordE l = if checkS l ≠ 0 then checkS l else if linksS l ≠ 0 then linksS l else if (accP l 10).length < l.length then 7 else 0) := hid rfl
  have HL : Hid (ordL l = if checkS l ≠ 0 then [] else if linksS l ≠ 0 then [] else if (accP l 10).length < l.length then [] else accP l 10) := hid rfl
  have HRUN := hid (ord_run (l := l))
  have HCE : Hid (checkS l ≠ 0 → ordE l = checkS l ∧ ordL l = []) := hid (fun h => ⟨by rw [HE.out, if_pos h], by rw [HL.out, if_pos h]⟩)
  have HLE : Hid (checkS l = 0 → linksS l ≠ 0 → ordE l = linksS l ∧ ordL l = []) := hid (fun h0 h => ⟨by rw [HE.out, h0, if_neg (by simp), if_pos h], by rw [HL.out, h0, if_neg (by simp), if_pos h]⟩)
  have HCD : Hid (checkS l = if 16 < l.length then 5 else firstE ((List.range l.length).map (chkAt l))) := hid rfl
  have HLD : Hid (linksS l = firstE ((List.range l.length).map (lnkE l))) := hid rfl
  have HCA := hid (check_at (l := l))
  have HOKO := hid (ok_of (l := l))
  clear hs HE HL
  generalize ordE l = E at *
  generalize ordL l = L at *
  generalize checkS l = CH at *
  generalize linksS l = LN at *
  go_enter Try.func26, Try.ntmps26
  by_cases hbig : 16 < l.length
  · have hbigI : (16 : Int) < (l.length : Int) := by omega
    obtain ⟨G1, G2⟩ := HCE.out (by rw [HCD.out, if_pos hbig]; omega)
    have G3 : Hid (E = 5) := hid (by rw [G1, HCD.out, if_pos hbig])
    have G2 := hid G2
    clear G1
    go_wp2
    (try simp only [Exit.inBlock, Exit.then])
    refine bodyPost_ret (results_2 rfl _) rfl ?_
    rw [G3.out, G2.out]
    exact ⟨none, 0, rfl, World.ownsRow_nil _ _ _ _, Keep.refl _ _⟩
  have hbigI : ¬ (16 : Int) < (l.length : Int) := by omega
  have H16 : Hid (l.length ≤ 16) := hid (by omega)
  have HCD1 : Hid (CH = firstE ((List.range l.length).map (chkAt l))) := hid (by rw [HCD.out, if_neg hbig])
  clear HCD hbig
  go_wp2_with fail
  go_loopw [4, 5] (fun i _ wr => ∃ k : Nat, k ≤ l.length ∧ i = iV k ∧ Keep (fun _ => False) w wr ∧ ∀ j, j < k → chkAt l j = 0) (fun i _ _ => l.length + 1 - (intOf i).toNat)
  case atStart => exact ⟨0, by omega, rfl, Keep.refl _ _, fun j h => by omega⟩
  case round =>
    clear hbigI
    obtain ⟨k, hk, rfl, hkeep, hzero⟩ := hrel
    have HK := hid hkeep; have HZ := hid hzero
    clear hkeep hzero
    by_cases hlt : k < l.length
    · obtain ⟨s, hsk⟩ : ∃ s, l[k]? = some s := ⟨l[k], by simp [hlt]⟩
      have hk16 : k < 16 := by have := H16.out; omega
      have HL6 : Hid (l.length ≤ 65536) := hid (by have := H16.out; omega)
      obtain ⟨b, off, pa, ca, pc, cc, rfl, hb, c0, c1, c2, c3, c4, c5, n1, n2, hca, hta, hvc⟩ := SP.at (HSP.out _ HK.out) hsk
      have hin : (0 : Int) ≤ (k : Int) ∧ (k : Int) < (l.length : Int) := ⟨by omega, by omega⟩
      have HCK : Hid (chkAt l k = if sysC s ≠ 0 then sysC s else if fnS l s.name < (k : Int) then 1 else 0) := hid (by unfold chkAt; rw [hsk])
      have HBAD : Hid (chkAt l k ≠ 0 → E = chkAt l k ∧ L = []) := hid (fun h => by
        have h1 : CH = chkAt l k := by rw [HCD1.out]; exact rangeE_at hlt h HZ.out
        have h2 := HCE.out (by rw [h1]; exact h)
        rw [h1] at h2; exact h2)
      have HGOOD : Hid (chkAt l k = 0 → ∀ j, j < k + 1 → chkAt l j = 0) := hid (fun h j hj => by
        by_cases hjk : j < k
        · exact HZ.out j hjk
        · obtain rfl : j = k := by omega
          exact h)
      have HFLE : Hid (fnS l s.name ≤ (k : Int)) := hid (idx_le (q := fun x : VSys => decide (x.name = s.name)) hsk (decide_eq_true rfl))
      have HCC := hid (r_check22 s pa ca pc cc wr n1 n2 hta hvc)
      have HLOW := hid hb
      generalize chkAt l k = ck at *
      clear hta hvc n1 n2 hca hb
      go_wp2_with fail
      refine HCC.out.mono ?_
      rintro r w6 ⟨rfl, hk6⟩
      have e0 : w6.cell? ⟨b, off + k * 6, none⟩ = some (.string s.name) := ((Low.keep0 hk6).cell HLOW.out).trans c0
      have HK6 := hid (HK.out.trans hk6)
      clear hk6 c0 c1 c2 c3 c4 c5 HCC hsk
      generalize sysC s = z at *
      by_cases hz : z = 0
      rotate_left
      · have g1 : ((z : Int) != 0) = true := by rw [bne, beq_eq_false_iff_ne.2 (show (z : Int) ≠ 0 by omega)]; rfl
        have g2 : (z != 0) = true := by rw [bne, beq_eq_false_iff_ne.2 hz]; rfl
        have h1 : ck = z := by rw [HCK.out, if_pos hz]
        obtain ⟨G1, G2⟩ := HBAD.out (by rw [h1]; exact hz)
        rw [h1] at G1
        have G1 := hid G1; have G2 := hid G2
        clear h1
        go_wp2
        (try simp only [Exit.inBlock, Exit.then])
        refine bodyPost_ret (results_2 rfl _) rfl ?_
        rw [G1.out, G2.out]
        exact ⟨none, 0, rfl, World.ownsRow_nil _ _ _ _, HK6.out⟩
      subst hz
      have HCK2 : Hid (ck = if fnS l s.name < (k : Int) then 1 else 0) := hid (by rw [HCK.out, if_neg (by simp)])
      go_wp2_with fail
      refine (r_find25 l s.name _ qc _ HL6.out (HSP.out _ HK6.out)).mono ?_
      rintro r w_ ⟨rfl, rfl⟩
      clear e0 HCK
      generalize fnS l s.name = fz at *
      by_cases hf : fz < (k : Int)
      · have g1 : (fz != (k : Int)) = true := by rw [bne, beq_eq_false_iff_ne.2 (show fz ≠ (k : Int) by omega)]; rfl
        have h1 : ck = 1 := by rw [HCK2.out, if_pos hf]
        obtain ⟨G1, G2⟩ := HBAD.out (by rw [h1]; omega)
        rw [h1] at G1
        have G1 := hid G1; have G2 := hid G2
        clear h1 hf
        go_wp2
        (try simp only [Exit.inBlock, Exit.then])
        refine bodyPost_ret (results_2 rfl _) rfl ?_
        rw [G1.out, G2.out]
        exact ⟨none, 0, rfl, World.ownsRow_nil _ _ _ _, HK6.out⟩
      · have hfe : fz = (k : Int) := by have := HFLE.out; omega
        have G := hid (HGOOD.out (by rw [HCK2.out, if_neg hf]))
        have g1 : ((k : Int) != (k : Int)) = false := by simp
        have g2 : (k != k) = false := by simp
        rw [hfe]
        clear hf hfe
        go_wp2
        go_roundw
        case rel => exact ⟨k + 1, by omega, by go_num, HK6.out, G.out⟩
        case measure => simp [intOf]; omega
    obtain rfl : k = l.length := by omega
    have hch : CH = 0 := by rw [HCD1.out]; exact rangeE_none HZ.out
    subst hch
    obtain ⟨_, hch⟩ := HCA.out rfl
    have HAF : Hid (∀ i, i < l.length → (afS l i).length ≤ 4) := hid (fun i hi => by
      obtain ⟨s, hs⟩ : ∃ s, l[i]? = some s := ⟨l[i], by simp [hi]⟩
      rw [afS_at hs]
      exact (sys_ok (hch i s hs).1).2.2.1)
    have HLE1 := hid (HLE.out rfl)
    have HRUN1 := hid (HRUN.out rfl)
    have HOK1 := hid (HOKO.out rfl)
    have g1 : decide ((l.length : Int) < (l.length : Int)) = false := decide_eq_false (by omega)
    have g2 : decide (l.length < l.length) = false := decide_eq_false (by omega)
    clear hch HCD1 HCE HLE HRUN HOKO HCA HZ
    go_wp2_with fail
    clear g1 g2
    generalize wr = wz at *
    go_loopw [6, 7, 8] (fun i _ _ wr => ∃ k : Nat, k ≤ l.length ∧ i = iV k ∧ Keep (fun _ => False) w wr ∧ ∀ j, j < k → lnkE l j = 0) (fun i _ _ _ => l.length + 1 - (intOf i).toNat)
    case atStart => exact ⟨0, by omega, rfl, HK.out, fun j h => by omega⟩
    case round =>
      clear HK
      obtain ⟨k, hk, rfl, hkeep, hzero⟩ := hrel
      have HK := hid hkeep; have HZ := hid hzero
      clear hkeep hzero
      by_cases hlt : k < l.length
      · have HBAD : Hid (lnkE l k ≠ 0 → E = lnkE l k ∧ L = []) := hid (fun h => by
          have h1 : LN = lnkE l k := by rw [HLD.out]; exact rangeE_at hlt h HZ.out
          have h2 := HLE1.out (by rw [h1]; exact h)
          rw [h1] at h2; exact h2)
        have HGOOD : Hid (lnkE l k = 0 → ∀ j, j < k + 1 → lnkE l j = 0) := hid (fun h j hj => by
          by_cases hjk : j < k
          · exact HZ.out j hjk
          · obtain rfl : j = k := by omega
            exact h)
        have HLK : Hid (lnkE l k = firstE ((afS l k).map (lnkAt l k))) := hid rfl
        have HAN := hid (HAF.out k hlt)
        have hin : (0 : Int) ≤ (k : Int) ∧ (k : Int) < (l.length : Int) := ⟨by omega, by omega⟩
        have HL6 : Hid (l.length ≤ 65536) := hid (by have := H16.out; omega)
        obtain ⟨b, off, rfl⟩ := sp_some (HSP.out _ HK.out) hlt
        obtain ⟨hb0, pa, ca, hd2, hta0⟩ := sys_after_at (HSP.out _ (Keep.refl _ _)) hlt
        have HC : Hid (∀ wy, Keep (fun _ => False) w wy → wy.cell? ⟨b, off + k * 6 + 2, none⟩ = some (.slice pa (afS l k).length ca) ∧ wy.cell? ⟨b, off + k * 6 + 1, none⟩ = some (.int .i64 (stS l k)) ∧ TP wy wy.heap.size pa (afS l k)) := hid (fun wy hk => by
          exact ⟨((Low.keep0 hk).cell hb0).trans hd2, sys_stage (HSP.out _ hk) hlt, TP.mono (TP.low hta0 (Low.keep0 hk)) hk.size⟩)
        generalize lnkE l k = ck at *
        clear hta0 hb0 hd2
        go_wp2_with fail
        go_loopw [7, 8] (fun i _ wy => ∃ m : Nat, m ≤ (afS l k).length ∧ i = iV m ∧ Keep (fun _ => False) w wy ∧ ∀ j, j < m → ((afS l k).map (lnkAt l k))[j]? = some 0) (fun i _ _ => (afS l k).length + 1 - (intOf i).toNat)
        case atStart => exact ⟨0, by omega, rfl, HK.out, fun j h => by omega⟩
        case round =>
          obtain ⟨m, hm, rfl, hkm, hzm⟩ := hrel
          have HKM := hid hkm; have HZM := hid hzm
          clear hkm hzm
          have hsa := HAN.out
          obtain ⟨c2, c1, hta⟩ := HC.out _ HKM.out
          have HTA := hid hta
          clear hta
          by_cases hml : m < (afS l k).length
          rotate_left
          · obtain rfl : m = (afS l k).length := by omega
            have h0 : ck = 0 := by
              rw [HLK.out]
              apply firstE_none
              intro e he
              obtain ⟨j, hj⟩ := List.getElem?_of_mem he
              have h1 := (List.getElem?_eq_some_iff.1 hj).1
              rw [List.length_map] at h1
              rw [HZM.out j h1] at hj
              injection hj with hj
              exact hj.symm
            have G := hid (HGOOD.out h0)
            have g1 : decide (((afS l k).length : Int) < ((afS l k).length : Int)) = false := decide_eq_false (by omega)
            have g2 : decide ((afS l k).length < (afS l k).length) = false := decide_eq_false (by omega)
            clear h0
            go_wp2
            go_roundw
            case rel => exact ⟨k + 1, by omega, by go_num, HKM.out, G.out⟩
            case measure => simp [intOf]; omega
          · obtain ⟨t, htm⟩ : ∃ t, (afS l k)[m]? = some t := ⟨(afS l k)[m], by simp [hml]⟩
            obtain ⟨ab, ao, rfl, hab, d0⟩ := TP.at HTA.out htm
            have hinm : (0 : Int) ≤ (m : Int) ∧ (m : Int) < ((afS l k).length : Int) := ⟨by omega, by omega⟩
            have HLM : Hid (((afS l k).map (lnkAt l k))[m]? = some (lnkAt l k t)) := hid (by rw [List.getElem?_map, htm]; rfl)
            have HLV : Hid (lnkAt l k t = if fnS l t < 0 then 6 else if stS l k < stS l (fdS l t) then 7 else 0) := hid rfl
            have HB2 : Hid (lnkAt l k t ≠ 0 → E = lnkAt l k t ∧ L = []) := hid (fun h => by
              have h1 : ck = lnkAt l k t := by rw [HLK.out]; exact firstE_at HLM.out h HZM.out
              have h2 := HBAD.out (by rw [h1]; exact h)
              rw [h1] at h2; exact h2)
            have HG2 : Hid (lnkAt l k t = 0 → ∀ j, j < m + 1 → ((afS l k).map (lnkAt l k))[j]? = some 0) := hid (fun h j hj => by
              by_cases hjm : j < m
              · exact HZM.out j hjm
              · obtain rfl : j = m := by omega
                rw [HLM.out, h])
            clear htm hab
            go_wp2_with fail
            refine (r_find25 l t _ qc _ HL6.out (HSP.out _ HKM.out)).mono ?_
            rintro r w_ ⟨rfl, rfl⟩
            clear d0
            rcases idx_cases (fun x : VSys => decide (x.name = t)) l with hi | ⟨jj, u, hi, hu, _, hjl⟩
            · have hf : fnS l t = -1 := hi
              have h6 : lnkAt l k t = 6 := by rw [HLV.out, hf]; rfl
              obtain ⟨G1, G2⟩ := HB2.out (by rw [h6]; omega)
              rw [h6] at G1
              have G1 := hid G1; have G2 := hid G2
              rw [hf]
              clear hi hf h6
              go_wp2
              (try simp only [Exit.inBlock, Exit.then])
              refine bodyPost_ret (results_2 rfl _) rfl ?_
              rw [G1.out, G2.out]
              exact ⟨none, 0, rfl, World.ownsRow_nil _ _ _ _, HKM.out⟩
            · have hf : fnS l t = (jj : Int) := hi
              have hfd : fdS l t = jj := by unfold fdS; rw [hf, Int.toNat_natCast]
              have HLV2 : Hid (lnkAt l k t = if stS l k < stS l jj then 7 else 0) := hid (by rw [HLV.out, hf, hfd, if_neg (by omega)])
              have hinj : (0 : Int) ≤ (jj : Int) ∧ (jj : Int) < (l.length : Int) := ⟨by omega, by omega⟩
              have g0 : decide ((jj : Int) < 0) = false := decide_eq_false (by omega)
              rw [hf]
              clear hi hu hf hfd
              go_upto_region 20 with fail
              clear g0 c1 c2
              have e1 := sys_stage (HSP.out _ HKM.out.drew) hjl
              obtain ⟨c2, c1, _⟩ := HC.out _ HKM.out.drew
              have HKD := hid HKM.out.drew
              generalize stS l jj = sj at *
              generalize stS l k = sk at *
              refine Plan.wp_region_pl [(false, 0, []), (false, 1, []), (false, 2, []), (false, 3, []), (false, 4, []), (false, 5, []), (false, 6, []), (false, 7, []), (false, 8, []), (false, 9, []), (false, 10, [])] (by as_aux_lemma => kernel_rfl) (by as_aux_lemma => kernel_rfl) ?_
              by_cases hst : sk < sj
              · have g1 : decide (sk < sj) = true := decide_eq_true hst
                have h7 : lnkAt l k t = 7 := by rw [HLV2.out, if_pos hst]
                obtain ⟨G1, G2⟩ := HB2.out (by rw [h7]; omega)
                rw [h7] at G1
                have G1 := hid G1; have G2 := hid G2
                clear h7 hst
                iterate 11 (refine Plan.pl_st rfl ?_; go_big_quiet_step (fail); refine wpQuiet_nil ?_)
                refine Plan.pl_end ?_
                go_wp2
                (try simp only [Exit.inBlock, Exit.then])
                refine bodyPost_ret (results_2 rfl _) rfl ?_
                rw [G1.out, G2.out]
                exact ⟨none, 0, rfl, World.ownsRow_nil _ _ _ _, HKD.out⟩
              · have g1 : decide (sk < sj) = false := decide_eq_false hst
                have h7 : lnkAt l k t = 0 := by rw [HLV2.out, if_neg hst]
                have G := hid (HG2.out h7)
                clear h7 hst
                iterate 11 (refine Plan.pl_st rfl ?_; go_big_quiet_step (fail); refine wpQuiet_nil ?_)
                refine Plan.pl_end ?_
                go_wp2
                go_roundw
                case rel => exact ⟨m + 1, by omega, by go_num, HKD.out, G.out⟩
                case measure => simp [intOf]; omega
      obtain rfl : k = l.length := by omega
      have hln : LN = 0 := by rw [HLD.out]; exact rangeE_none HZ.out
      subst hln
      have HRUN2 := hid (HRUN1.out rfl)
      have HOK := hid (HOK1.out rfl)
      clear HLD HLE1 HRUN1 HOK1 HZ
      have g1 : decide ((l.length : Int) < (l.length : Int)) = false := decide_eq_false (by omega)
      have g2 : decide (l.length < l.length) = false := decide_eq_false (by omega)
      have h16 := H16.out
      obtain ⟨i0, hi0, hz0, hzz1, hzz2⟩ := info_parts' info_intS
      have HI := hid (And.intro hi0 (And.intro hz0 (And.intro hzz1 hzz2)))
      clear hi0 hz0 hzz1 hzz2
      obtain ⟨i1, hi1, hy0, hy1, hy2⟩ := info_parts' info_boolS
      have hmk : (Instr.makeSlice 52 (.int .i64 (l.length : Int)) (.int .i64 (l.length : Int))).run Try.prog wr = .ok (.slice (some ⟨wr.heap.size, 0, none⟩) l.length l.length) (wr.alloc (.cells (Array.replicate l.length (Value.bool false)) 4)) := by
        have := run_make (P := Try.prog) wr 52 4 i1 (.bool false) Try.underlying52 hi1 hy0 .i64 .i64 (l.length : Int) (l.length : Int) (by omega) (by omega) (by rw [hy2]; omega) (by omega)
        rw [this, hy1, Int.toNat_natCast, Nat.mul_one]
        show Result.ok _ (wr.alloc (Obj.cells (madeCells #[Value.bool false] l.length) _)) = _
        rw [made_bools]
      clear hi1 hy0 hy1 hy2
      obtain ⟨w4, hw4, hb4, hb5, hs4, hk4⟩ := box2 wr (Array.replicate l.length (Value.bool false)) #[] 4 3
      have hdn : w4.ownsRow w.heap.size 4 1 (.slice (some ⟨wr.heap.size, 0, none⟩) l.length l.length) l.length ((dnL l []).map bVS) := by
        rw [dn_zero, List.map_replicate]
        exact ⟨by rw [List.length_replicate]; omega, .inr ⟨_, _, _, rfl, HK.out.size, hb4, Nat.le_refl _, by unfold maxLen; omega, by simp, by simp⟩⟩
      have hou : w4.ownsRow w.heap.size 3 1 (.slice (some ⟨wr.heap.size + 1, 0, none⟩) 0 0) 0 [] :=
        ⟨by simp, .inr ⟨_, _, _, rfl, by have := HK.out.size; omega, hb5, Nat.le_refl _, by unfold maxLen; omega, by simp, by simp⟩⟩
      have HDN := hid hdn; have HOU := hid hou; have HK4 := hid (HK.out.trans hk4)
      have HNE : Hid (wr.heap.size + 1 ≠ wr.heap.size) := hid (by omega)
      have HGB : Hid (w.heap.size ≤ wr.heap.size) := hid HK.out.size
      clear hb4 hb5 hs4 hk4 hdn hou HK
      go_upto_block 6 with fail
      rw [← hw4]
      clear hw4 hmk g1 g2
      obtain ⟨RS, hRS⟩ : ∃ RS, runS l l.length [] = RS := ⟨_, rfl⟩
      have HRS0 : Hid (runS l (l.length - ([] : List Nat).length) [] = RS) := hid hRS
      rw [hRS] at HRUN2
      clear hRS
      generalize wr.heap.size + 1 = gi at *
      generalize wr.heap.size = gd at *
      go_wp2_with fail
      go_loopw [10, 11, 12, 13, 14, 15, 16] (fun o _ _ _ _ _ _ wy => ∃ (a : Option Addr) (c : Nat) (out : List Nat), o = .slice a out.length c ∧ wy.ownsRow w.heap.size 3 1 (.slice a out.length c) out.length (out.map iV) ∧ wy.ownsRow w.heap.size 4 1 (.slice (some ⟨gd, 0, none⟩) l.length l.length) l.length ((dnL l out).map bVS) ∧ (Value.slice a out.length c).ownBlock ≠ some gd ∧ runS l (l.length - out.length) out = RS ∧ Keep (fun _ => False) w wy) (fun o _ _ _ _ _ _ _ => 17 - lenV o)
      case atStart => exact ⟨some ⟨gi, 0, none⟩, 0, [], rfl, HOU.out, HDN.out, by simp [Value.ownBlock]; exact HNE.out, HRS0.out, HK4.out⟩
      case round =>
        clear HDN HOU HK4 HNE HRS0
        obtain ⟨a, c, out, rfl, hou, hdn, hne, hrun, hkr⟩ := hrel
        have HOU := hid hou; have HDN := hid hdn; have HNE := hid hne; have HRS := hid hrun; have HKR := hid hkr
        clear hou hdn hne hrun hkr
        by_cases hol : out.length < l.length
        rotate_left
        · have g1 : decide ((out.length : Int) < (l.length : Int)) = false := decide_eq_false (by omega)
          have g2 : decide (out.length < l.length) = false := decide_eq_false hol
          have hr := HRS.out
          rw [show l.length - out.length = 0 by omega] at hr
          obtain ⟨G1, G2⟩ := HRUN2.out.2 out hr.symm
          have G1 := hid G1; have G2 := hid G2
          clear hr
          go_wp2
          (try simp only [Exit.inBlock, Exit.then])
          refine bodyPost_ret (results_2 rfl _) rfl ?_
          rw [G1.out, G2.out]
          exact ⟨a, c, rfl, HOU.out, HKR.out⟩
        have g1 : decide ((out.length : Int) < (l.length : Int)) = true := decide_eq_true (by omega)
        have g2 : decide (out.length < l.length) = true := decide_eq_true hol
        obtain ⟨lb, lo, rfl⟩ := sp_some (HSP.out _ HKR.out) (show 0 < l.length by omega)
        obtain ⟨f, hf⟩ : ∃ f, l.length - out.length = f + 1 := ⟨l.length - out.length - 1, by omega⟩
        have HF := hid hf
        have HRS1 : Hid ((match stepS l out with | none => none | some i => runS l f (out ++ [i])) = RS) := hid (by rw [← HRS.out, hf]; rfl)
        have HM0 : Hid (mnK l out 0 = 99) := hid rfl
        clear hf HRS
        go_wp2_with fail
        clear g1 g2
        have HDC : Hid (∀ wy, Keep (fun _ => False) wr wy → ∀ i, i < l.length → wy.cell? ⟨gd, i, none⟩ = some (.bool (out.contains i))) := hid (fun wy hk i hi => by
          rw [owns_cell (owns_keep (w' := wy) HDN.out (fun j hj => hk.block j (HDN.out.lt j hj).2 id)) hi, List.getElem?_map, dn_at hi]; rfl)
        generalize hwr : wr = wn at *
        go_loopw [11, 12] (fun mn i wy => ∃ k : Nat, k ≤ l.length ∧ i = iV k ∧ mn = .int .i64 (mnK l out k) ∧ wn = wy) (fun _ i _ => l.length + 1 - (intOf i).toNat)
        case atStart => exact ⟨0, by omega, rfl, by rw [HM0.out], rfl⟩
        case round =>
          obtain ⟨k, hk, rfl, rfl, rfl⟩ := hrel
          by_cases hlt : k < l.length
          · have hin : (0 : Int) ≤ (k : Int) ∧ (k : Int) < (l.length : Int) := ⟨by omega, by omega⟩
            have d0 := HDC.out _ (Keep.refl _ _) k hlt
            have e1 := sys_stage (HSP.out _ HKR.out) hlt
            have HNX := hid (mnK_next l out k)
            generalize mnK l out k = mk at *
            generalize stS l k = sk at *
            cases hc : out.contains k
            · rw [hc] at d0
              by_cases hs : sk < mk
              · have g1 : decide (sk < mk) = true := decide_eq_true hs
                have G : Hid (mnK l out (k + 1) = sk) := hid (by rw [HNX.out, if_pos ⟨hc, hs⟩])
                clear hc hs
                go_wp2
                go_roundw
                case rel => exact ⟨k + 1, by omega, by go_num, by rw [G.out], by first | rfl | trivial⟩
                case measure => simp [intOf]; omega
              · have g1 : decide (sk < mk) = false := decide_eq_false hs
                have G : Hid (mnK l out (k + 1) = mk) := hid (by rw [HNX.out, if_neg (fun h => hs h.2)])
                clear hc hs
                go_wp2
                go_roundw
                case rel => exact ⟨k + 1, by omega, by go_num, by rw [G.out], by first | rfl | trivial⟩
                case measure => simp [intOf]; omega
            · rw [hc] at d0
              have G : Hid (mnK l out (k + 1) = mk) := hid (by rw [HNX.out, if_neg (fun h => by rw [hc] at h; cases h.1)])
              clear hc
              go_wp2
              go_roundw
              case rel => exact ⟨k + 1, by omega, by go_num, by rw [G.out], by first | rfl | trivial⟩
              case measure => simp [intOf]; omega
          obtain rfl : k = l.length := by omega
          have g1 : decide ((l.length : Int) < (l.length : Int)) = false := decide_eq_false (by omega)
          have g2 : decide (l.length < l.length) = false := decide_eq_false (by omega)
          have HST : Hid (stepS l out = bsK l out (mnK l out l.length) l.length) := hid rfl
          generalize mnK l out l.length = sg at *
          have HB0 : Hid (bsK l out sg 0 = none) := hid rfl
          go_wp2_with fail
          clear g1 g2
          go_loopw [13, 14, 15, 16] (fun bv i _ _ wy => ∃ k : Nat, k ≤ l.length ∧ i = iV k ∧ bv = optV (bsK l out sg k) ∧ Keep (fun _ => False) wn wy) (fun _ i _ _ _ => l.length + 1 - (intOf i).toNat)
          case atStart => exact ⟨0, by omega, rfl, by rw [HB0.out]; rfl, Keep.refl _ _⟩
          case round =>
            clear HB0
            obtain ⟨k, hk, rfl, rfl, hkk⟩ := hrel
            have HKK := hid hkk
            clear hkk
            have HKW := hid (HKR.out.trans HKK.out)
            by_cases hlt : k < l.length
            · have hin : (0 : Int) ≤ (k : Int) ∧ (k : Int) < (l.length : Int) := ⟨by omega, by omega⟩
              have d0 := HDC.out _ HKK.out k hlt
              have e1 := sys_stage (HSP.out _ HKW.out) hlt
              have HBN := hid (bsK_next l out sg k)
              have HBL := hid (fun i => bsK_lt (l := l) (out := out) (s := sg) (k := k) (i := i))
              have HMZ := hid (my_zero l out sg k)
              have HME := hid (my_end l out sg k)
              have HMN := hid (fun m a (h : (afS l k)[m]? = some a) => my_next (l := l) (out := out) (s := sg) h)
              have HAN := hid (HAF.out k hlt)
              have HHAS := hid (HOK.out.has k hlt)
              obtain ⟨_, pa, ca, c2, hta⟩ := sys_after_at (HSP.out _ HKW.out) hlt
              have HTA := hid hta
              have HL6 : Hid (l.length ≤ 65536) := hid (by omega)
              have HBB : Hid (canS l out sg k = true → ∀ i, bsK l out sg k = some i → i < l.length) := hid (fun _ i hi => by have := HBL.out i hi; omega)
              clear hta HBL
              generalize bsK l out sg k = bk at *
              go_upto_region 35 with fail
              go_cut [15] from 116 to 180 (fun u wx => u = .bool (myS l out sg k 0) ∧ wr = wx)
              case first =>
                cases hc : out.contains k
                · rw [hc] at d0
                  by_cases hs : stS l k = sg
                  · have g1 : (stS l k == sg) = true := beq_iff_eq.2 hs
                    have G : Hid (myS l out sg k 0 = true) := hid (by rw [HMZ.out, hc, decide_eq_true hs]; rfl)
                    clear hc hs
                    go_wp2
                    go_meet
                    case rel => exact ⟨by rw [G.out], rfl⟩
                  · have g1 : (stS l k == sg) = false := beq_eq_false_iff_ne.2 hs
                    have G : Hid (myS l out sg k 0 = false) := hid (by rw [HMZ.out, hc, decide_eq_false hs]; rfl)
                    clear hc hs
                    go_wp2
                    go_meet
                    case rel => exact ⟨by rw [G.out], rfl⟩
                · rw [hc] at d0
                  have G : Hid (myS l out sg k 0 = false) := hid (by rw [HMZ.out, hc]; rfl)
                  clear hc
                  go_wp2
                  go_meet
                  case rel => exact ⟨by rw [G.out], rfl⟩
              case rest =>
              obtain ⟨rfl, rfl⟩ := hcut
              go_wp2_with fail
              clear d0 e1
              have hsa := HAN.out
              generalize hwq : wr = wq at *
              go_loopw [15, 16] (fun y i wy => ∃ m : Nat, m ≤ (afS l k).length ∧ i = iV m ∧ y = .bool (myS l out sg k m) ∧ wq = wy) (fun _ i _ => (afS l k).length + 1 - (intOf i).toNat)
              case atStart => exact ⟨0, by omega, rfl, rfl, rfl⟩
              case round =>
                obtain ⟨m, hm, rfl, rfl, rfl⟩ := hrel
                by_cases hml : m < (afS l k).length
                · obtain ⟨t, htm⟩ : ∃ t, (afS l k)[m]? = some t := ⟨(afS l k)[m], by simp [hml]⟩
                  obtain ⟨ab, ao, rfl, hab, d1⟩ := TP.at HTA.out htm
                  have hinm : (0 : Int) ≤ (m : Int) ∧ (m : Int) < ((afS l k).length : Int) := ⟨by omega, by omega⟩
                  have HMX := hid (HMN.out m t htm)
                  obtain ⟨jj, hf, hjl, _, _⟩ := HHAS.out t (List.mem_of_getElem? htm)
                  have hfd : fdS l t = jj := by unfold fdS; rw [hf, Int.toNat_natCast]
                  have HMX : Hid (myS l out sg k (m + 1) = (myS l out sg k m && out.contains jj)) := hid (by rw [HMX.out, hfd])
                  have hinj : (0 : Int) ≤ (jj : Int) ∧ (jj : Int) < (l.length : Int) := ⟨by omega, by omega⟩
                  have d2 := HDC.out _ HKK.out jj hjl
                  have HFN := hid (r_find25 l t (some ⟨lb, lo, none⟩) qc wq HL6.out (HSP.out _ HKW.out))
                  rw [hf] at HFN
                  clear htm hab hf hfd
                  generalize myS l out sg k m = mb at *
                  cases mb
                  · have G : Hid (myS l out sg k (m + 1) = false) := hid (by rw [HMX.out]; rfl)
                    go_wp2
                    go_roundw
                    case rel => exact ⟨m + 1, by omega, by go_num, by rw [G.out], by first | rfl | trivial⟩
                    case measure => simp [intOf]; omega
                  · have G : Hid (myS l out sg k (m + 1) = out.contains jj) := hid (by rw [HMX.out]; rfl)
                    generalize out.contains jj = ob at *
                    go_wp2_with fail
                    refine HFN.out.mono ?_
                    rintro r w_ ⟨rfl, rfl⟩
                    clear d1 HFN
                    go_wp2
                    go_roundw
                    case rel => exact ⟨m + 1, by omega, by go_num, by rw [G.out], by first | rfl | trivial⟩
                    case measure => simp [intOf]; omega
                obtain rfl : m = (afS l k).length := by omega
                have g1 : decide (((afS l k).length : Int) < ((afS l k).length : Int)) = false := decide_eq_false (by omega)
                have g2 : decide ((afS l k).length < (afS l k).length) = false := decide_eq_false (by omega)
                rw [HME.out]
                go_upto_region 40 with fail
                clear g1 g2 c2
                have HKD := hid HKK.out.drew
                have HKWD := hid HKW.out.drew
                have e2 := sys_name (HSP.out _ HKWD.out) hlt
                refine Plan.wp_region_pl [(false, 0, []), (false, 1, []), (false, 2, []), (false, 3, []), (false, 4, []), (false, 5, []), (false, 6, []), (false, 7, []), (false, 8, []), (false, 9, []), (false, 10, []), (false, 11, []), (false, 12, []), (false, 13, []), (false, 14, []), (false, 15, []), (false, 16, []), (false, 17, [])] (by as_aux_lemma => kernel_rfl) (by as_aux_lemma => kernel_rfl) ?_
                cases hcan : canS l out sg k
                · have G : Hid (bsK l out sg (k + 1) = bk) := hid (by rw [HBN.out, hcan, if_neg Bool.false_ne_true])
                  clear hcan
                  iterate 18 (refine Plan.pl_st rfl ?_; go_big_quiet_step (fail); refine wpQuiet_nil ?_)
                  refine Plan.pl_end ?_
                  go_wp2
                  go_roundw
                  case rel => exact ⟨k + 1, by omega, by go_num, by rw [G.out], HKD.out⟩
                  case measure => simp [intOf]; omega
                have HBN2 : Hid (bsK l out sg (k + 1) = bestF l bk k) := hid (by rw [HBN.out, hcan, if_pos rfl])
                cases hbk : bk with
                | none =>
                  have G : Hid (bsK l out sg (k + 1) = some k) := hid (by rw [HBN2.out, hbk]; rfl)
                  have g1 : decide ((-1 : Int) < 0) = true := by decide
                  show Plan.Stop _
                  clear hcan hbk
                  unfold optV
                  iterate 18 (refine Plan.pl_st rfl ?_; go_big_quiet_step (fail); refine wpQuiet_nil ?_)
                  refine Plan.pl_end ?_
                  go_wp2
                  go_roundw
                  case rel => exact ⟨k + 1, by omega, by go_num, by rw [G.out]; rfl, HKD.out⟩
                  case measure => simp [intOf]; omega
                | some bi =>
                  have hbl := HBB.out hcan bi hbk
                  have HBN3 : Hid (bsK l out sg (k + 1) = if ltB (nmS l k) (nmS l bi) = true then some k else some bi) := hid (by rw [HBN2.out, hbk]; rfl)
                  have hinb : (0 : Int) ≤ (bi : Int) ∧ (bi : Int) < (l.length : Int) := ⟨by omega, by omega⟩
                  have g1 : decide ((bi : Int) < 0) = false := decide_eq_false (by omega)
                  have e3 := sys_name (HSP.out _ HKWD.out) hbl
                  have hlt' := ltB_tl (nmS l k) (nmS l bi)
                  generalize nmS l k = nk at *
                  generalize nmS l bi = nb at *
                  clear hcan hbk
                  unfold optV
                  cases hb : ltB nk nb
                  · have G : Hid (bsK l out sg (k + 1) = some bi) := hid (by rw [HBN3.out, hb, if_neg Bool.false_ne_true])
                    rw [hb] at hlt'
                    clear hb
                    iterate 18 (refine Plan.pl_st rfl ?_; go_big_quiet_step (fail); refine wpQuiet_nil ?_)
                    refine Plan.pl_end ?_
                    go_wp2
                    go_roundw
                    case rel => exact ⟨k + 1, by omega, by go_num, by rw [G.out]; rfl, HKD.out⟩
                    case measure => simp [intOf]; omega
                  · have G : Hid (bsK l out sg (k + 1) = some k) := hid (by rw [HBN3.out, hb, if_pos rfl])
                    rw [hb] at hlt'
                    clear hb
                    iterate 18 (refine Plan.pl_st rfl ?_; go_big_quiet_step (fail); refine wpQuiet_nil ?_)
                    refine Plan.pl_end ?_
                    go_wp2
                    go_roundw
                    case rel => exact ⟨k + 1, by omega, by go_num, by rw [G.out]; rfl, HKD.out⟩
                    case measure => simp [intOf]; omega
            obtain rfl : k = l.length := by omega
            have g1 : decide ((l.length : Int) < (l.length : Int)) = false := decide_eq_false (by omega)
            have g2 : decide (l.length < l.length) = false := decide_eq_false (by omega)
            have HBN := hid (fun i => bsK_lt (l := l) (out := out) (s := sg) (k := l.length) (i := i))
            rw [← HST.out] at HBN ⊢
            generalize stepS l out = so at *
            cases so with
            | none =>
              obtain ⟨G1, G2⟩ := HRUN2.out.1 HRS1.out.symm
              have G1 := hid G1; have G2 := hid G2
              have g3 : decide ((-1 : Int) < 0) = true := by decide
              unfold optV
              go_wp2
              (try simp only [Exit.inBlock, Exit.then])
              refine bodyPost_ret (results_2 rfl _) rfl ?_
              (try rw [G1.out, G2.out])
              exact ⟨none, 0, rfl, World.ownsRow_nil _ _ _ _, HKW.out⟩
            | some b =>
              have hbl := HBN.out b rfl
              have HRS2 : Hid (runS l f (out ++ [b]) = RS) := hid HRS1.out
              have HLN2 : Hid ((out ++ [b]).length = out.length + 1) := hid (by rw [List.length_append]; rfl)
              have HFN2 : Hid (l.length - (out.length + 1) = f) := hid (by have := HF.out; omega)
              have HMO : Hid ((out ++ [b]).map iV = out.map iV ++ [iV b]) := hid (by rw [List.map_append]; rfl)
              have g3 : decide ((b : Int) < 0) = false := decide_eq_false (by omega)
              have hinb : (0 : Int) ≤ (b : Int) ∧ (b : Int) < (l.length : Int) := ⟨by omega, by omega⟩
              have hdw := owns_keep (w' := wr) HDN.out (fun j hj => HKK.out.block j (HDN.out.lt j hj).2 id)
              have how := owns_keep (w' := wr) HOU.out (fun j hj => HKK.out.block j (HOU.out.lt j hj).2 id)
              have d0 := HDC.out _ HKK.out b hbl
              have f0 : wr.frozen? ⟨gd, b, none⟩ = false := owns_free hdw b
              have hset := owns_set hdw b (bVS true) hbl
              rw [← List.map_set, dn_set hbl] at hset
              have HDS := hid hset
              have HOS := hid (owns_keep (w' := wr.setCell ⟨gd, b, none⟩ (.bool true)) how (fun j hj => hsc_ne _ (fun e => HNE.out (e ▸ hj))))
              have HKS := hid (HKW.out.setCell_new (p := ⟨gd, b, none⟩) HGB.out (.bool true))
              have hol16 : out.length ≤ 16 := by omega
              have HGS : Hid (gd < wr.heap.size) := hid (hdw.lt gd rfl).2
              clear hdw how hset HRS1 HBN
              unfold optV
              go_upto_region 45 with fail
              clear d0 f0 g1 g2 g3
              have HGS2 : Hid (gd < (wr.setCell ⟨gd, b, none⟩ (.bool true)).heap.size) := hid (HDS.out.lt gd rfl).2
              generalize wr.setCell ⟨gd, b, none⟩ (.bool true) = ws at *
              go_wp2_with (at_builtin; go_loud (refine wpList_append_rd rfl _ _ _ rfl w.heap.size _ i0 _ 1 8 Try.underlying24 HI.out.1 HI.out.2.1 HI.out.2.2.1 HI.out.2.2.2 rfl (by decide) _ out.length _ (by rfl) (HOS.out.alloc _) _ 1 [iV b] (by rfl) (rd_block (heap_alloc_new ws _) (by simp) (by simp [Value.oneCell'])) (by unfold maxLen; omega) (by omega) (by have := HKS.out.size; simp; omega) ?_; intro v' w6 hown6 hgrow6 hat6 hn6; obtain ⟨vr, ve, rfl⟩ := owns_val hown6; rw [← HMO.out] at hown6; have HO6 := hid hown6; have HK6 := hid ((HKS.out.alloc _).grown hgrow6 (fun k hk => .inl (HOS.out.lt k hk).1)); have HNE6 : Hid ((Value.slice vr (out.length + 1) ve).ownBlock ≠ some gd) := hid (by
                rcases hat6 with e | e
                · rw [e]; exact HNE.out
                · rw [e]; intro e2; injection e2 with e2; simp at e2; have := HGS2.out; omega); have HD6 := hid (owns_keep (w' := w6) HDS.out (fun j hj => ((Keep.refl (fun k => (Value.slice a out.length c).ownBlock = some k) ws).alloc _ |>.grown hgrow6 (fun k hk => .inr hk)).block j (HDS.out.lt j hj).2 (by simp [Value.ownBlock] at hj; subst hj; exact HNE.out))); clear hown6 hgrow6 hat6 hn6))
              go_roundw
              case rel => exact ⟨vr, ve, out ++ [b], by rw [HLN2.out], by rw [HLN2.out]; exact HO6.out, HD6.out, by rw [HLN2.out]; exact HNE6.out, by rw [HLN2.out, HFN2.out]; exact HRS2.out, HK6.out⟩
              case measure => simp [lenV]; omega
end Go.Proofs.Ytcbboaoakgngkaa
