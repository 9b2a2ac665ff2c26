/- What is proved: an instruction's line, and a system's lines. -/
import Derived.Test.YtbnhdmalkmcalaaDoorMCrLine
namespace Go.Proofs.YtbnhdmalkmcalaaDoor
open Go.RowKit Go.Proofs.Heap Go.Proofs.Sch

/-- A row that was made with its elements. -/
theorem row_made {w : World} {base b : Nat} {e : TypeId} {cur : Array Value} {n : Nat} (hh : w.heap[b]? = some (.cells cur e (0, 0))) (hb : base ≤ b) (hn : cur.size = n) (hm : n ≤ maxLen) : w.ownsRow base e 1 (.slice (some ⟨b, 0, none⟩) n n) n cur.toList :=
  ⟨by rw [Array.length_toList, hn, Nat.mul_one], .inr ⟨b, n, cur, rfl, hb, hh, Nat.le_refl _, hm, by rw [hn, Nat.mul_one], by rw [Nat.mul_one, ← hn, List.take_of_length_le (by rw [Array.length_toList]; exact Nat.le_refl _)]⟩⟩
theorem word_size (n : Int) : (wordI n).size ≤ 5 := by
  have key : ∀ k, k < 24 → (wordC k).size ≤ 5 := by decide +kernel
  unfold wordI
  split
  next h =>
    have : 1 ≤ n ∧ n ≤ 23 := of_decide_eq_true h
    exact key _ (by omega)
  · decide
theorem args_len (x : VOp) : (argsL x).length ≤ 3 := by
  unfold argsL
  split
  · exact Nat.le_of_ble_eq_true rfl
  · split
    · exact Nat.le_of_ble_eq_true rfl
    · split <;> exact Nat.le_of_ble_eq_true rfl
theorem info_opL5 : (Tryd.prog.info? 50).map (·.size) = some 5 := by kernel_rfl
theorem load_opC {w : World} {b : Nat} {x : VOp} (h : w.heap[b]? = some (.cells (OC x) 50 (0, 0))) : (loadVar 50 ⟨b, 0, none⟩).run Tryd.prog w = .ok (OV x) w :=
  run_loadVar_row w b _ 50 _ _ _ h Tryd.underlying50 rfl (by rw [info_opL5]; rfl)
theorem opsT_next {i : Nat} {x : VOp} {k : Nat} {n : Int} (h : (argsL x)[k]? = some n) : itB (i : Int) :: wordI x.code :: ((argsL x).take (k + 1)).map itB = (itB (i : Int) :: wordI x.code :: ((argsL x).take k).map itB) ++ [itB n] := by
  rw [its_next h]; rfl

set_option maxRecDepth 20000 in
set_option maxHeartbeats 8000000 in
theorem craft_line (i : Nat) (x : VOp) (hx : OpB x) (w : World) (hi : ItOk (i : Int) w) (ha : ∀ n ∈ argsL x, ItOk n w) : Calls Tryd.prog 59 #[.int .i64 (i : Int), OV x] w fun r w' => r = .returned (.string (opLine i x)) ∧ Keep (fun _ => False) w w' := by
  obtain ⟨i0, hi0, hz0, hz1, hz2⟩ := info_parts' info_strT
  have HI := hid hi; have HA := hid ha
  have HN := hid (fun w => craft_named x hx w)
  have HOL : Hid (opLine i x = joinB (itB (i : Int) :: wordI x.code :: (argsL x).map itB) 32) := hid rfl
  have HNX := hid (fun k n h => opsT_next (i := i) (x := x) (k := k) (n := n) h)
  have HLN := hid (args_len x)
  have HWS := hid (word_size x.code)
  have HIS := hid hi.1
  have HAS : Hid (∀ n ∈ argsL x, (itB n).size ≤ 21) := hid (fun n hn => (ha n hn).1)
  have HOW := hid (fun w => of_opW x w)
  obtain ⟨w1, hw1, hb1, hs1, hk1⟩ := box1 w (OC x) 50
  have HK1 := hid hk1; have HB1 := hid hb1
  have HLT := hid (lt_of_heap hb1)
  clear hb1 hs1 hk1 hx hi ha
  go_enter Tryd.func59, Tryd.ntmps59
  go_upto_region 1 with fail
  rw [← hw1]
  clear hw1
  generalize w.heap.size = xb at *
  refine Plan.wp_region_pl [(false, 0, []), (false, 2, []), (true, 1, [2]), (true, 3, []), (false, 4, []), (true, 5, []), (false, 6, [])] (by as_aux_lemma => kernel_rfl) (by as_aux_lemma => kernel_rfl) ?_
  refine Plan.pl_st rfl ?_; go_big_quiet_step (fail); refine wpQuiet_nil ?_
  have hld := load_opC (w := w1.drew) HB1.out
  refine Plan.pl_st rfl ?_
  refine Plan.wpQuiet_load rfl 50 _ rfl _ rfl _ hld ?_
  simp only [Act.put, List.setIfInBounds_toArray, List.set_cons_succ, List.set_cons_zero]
  refine wpQuiet_nil ?_
  clear hld
  refine Plan.pl_ac rfl ?_
  go_wp2_with fail
  refine (HI.out.2 _ HK1.out.drew).mono ?_
  rintro r w2 ⟨rfl, hk⟩
  have HK2 := hid (HK1.out.drew.trans hk)
  have HB2 := hid (hk.get (w := w1.drew) HB1.out id)
  clear hk
  go_wp2
  refine Plan.plQ_mk ?_ ?_
  · refine Plan.chk_st rfl ?_ ?_
    · refine Plan.wpQuiet_load rfl 50 _ rfl _ rfl _ (load_opC HB2.out) ?_
      exact wpQuiet_nil rfl
    exact Plan.chk_end
  refine Plan.pl_ac rfl ?_
  go_wp2_with fail
  refine (HOW.out _).mono ?_
  rintro r w3 ⟨rfl, hk⟩
  have HK3 := hid (HK2.out.trans hk)
  have HB3 := hid (hk.get HB2.out id)
  clear hk
  simp only [RV4]
  go_wp2
  refine Plan.plQ_mk Plan.chk_end ?_
  have hfd : ∀ w, (Instr.field 115 (.agg #[.string (wordI x.code), .string (namesS (namesN x.code)), .int .i64 (takesV x.code : Int), .int .i64 (putsV x.code : Int)]) 0).run Tryd.prog w = .ok (.string (wordI x.code)) w := fun w => by kernel_rfl
  obtain ⟨tw, htw⟩ : ∃ tw, wordI x.code = tw := ⟨_, rfl⟩
  rw [htw] at HOL HNX HWS hfd ⊢
  clear htw
  generalize namesS (namesN x.code) = sn at *
  generalize takesV x.code = tk at *
  generalize putsV x.code = pt at *
  generalize itB (i : Int) = ti at *
  refine Plan.pl_st rfl ?_; go_big_quiet_step (fail); refine wpQuiet_nil ?_
  clear hfd
  obtain ⟨w4, hw4, hb4, hs4, hk4⟩ := box1 w3 #[.string ti, .string tw] 9
  have HO4 : Hid (w4.ownsRow w3.heap.size 9 1 (.slice (some ⟨w3.heap.size, 0, none⟩) 2 2) 2 ([ti, tw].map Value.string)) := hid (row_made hb4 (Nat.le_refl _) rfl (by unfold maxLen; omega))
  have HB4 := hid (hk4.get HB3.out id); have HK4 := hid (HK3.out.trans hk4)
  have HKS : Hid (w3.heap.size < w4.heap.size) := hid (lt_of_heap hb4)
  clear hb4 hs4 hk4
  refine Plan.pl_ac rfl ?_
  go_wp2
  rw [← hw4]
  clear hw4
  refine Plan.plQ_mk Plan.chk_end ?_
  refine Plan.pl_st rfl ?_; go_big_quiet_step (fail); refine wpQuiet_nil ?_
  refine Plan.pl_end ?_
  have HWR : Hid (w.heap.size ≤ w3.heap.size) := hid HK3.out.size
  generalize w3.heap.size = rb at *
  obtain ⟨k0, k1, k2, k3, k4⟩ : w4.cell? ⟨xb, 0, none⟩ = some (.int .i64 x.code) ∧ w4.cell? ⟨xb, 1, none⟩ = some (.int .i64 x.a) ∧ w4.cell? ⟨xb, 2, none⟩ = some (.int .i64 x.b) ∧ w4.cell? ⟨xb, 3, none⟩ = some (.int .i64 x.c) ∧ w4.cell? ⟨xb, 4, none⟩ = some (.int .i64 x.k) := ⟨cell_of HB4.out (by rfl), cell_of HB4.out (by rfl), cell_of HB4.out (by rfl), cell_of HB4.out (by rfl), cell_of HB4.out (by rfl)⟩
  go_wp2_with fail
  refine (HN.out _).mono ?_
  rintro r w5 ⟨a, c, rfl, ho, hk⟩
  have HO5 := hid ho
  have HK5 := hid (HK4.out.trans hk)
  have HR5 := hid (owns_keep HO4.out (fun j hj => hk.block j (HO4.out.lt j hj).2 id))
  have HRS : Hid (rb < w5.heap.size) := hid (Nat.lt_of_lt_of_le HKS.out hk.size)
  clear ho hk k0 k1 k2 k3 k4 HO4 HB4
  generalize hL : argsL x = L at *
  clear hL
  go_wp2_with fail
  go_loopw [5, 7, 17] (fun v _ i wr => ∃ k : Nat, k ≤ L.length ∧ i = iV k ∧ wr.ownsRow rb 9 1 v (2 + k) ((ti :: tw :: (L.take k).map itB).map Value.string) ∧ (∀ j, v.ownBlock = some j → j = rb ∨ w5.heap.size ≤ j) ∧ Keep (fun j => j = rb) w5 wr) (fun _ _ i _ => L.length + 1 - (intOf i).toNat)
  case atStart => exact ⟨0, Nat.zero_le _, rfl, HR5.out, fun j hj => .inl (by simp [Value.ownBlock] at hj; exact hj.symm), Keep.refl _ _⟩
  case round =>
    obtain ⟨k, hk, rfl, how, hbl, hkr⟩ := hrel
    obtain ⟨vp, vc, rfl⟩ := owns_val how
    have HO := hid how; have HKR := hid hkr; have HBL := hid hbl
    have HKW := hid (keep_new HK5.out hkr (fun j e => by have := HWR.out; omega))
    clear how hkr hbl
    by_cases hlt : k < L.length
    · obtain ⟨n, hnk⟩ : ∃ n, L[k]? = some n := ⟨L[k], by simp [hlt]⟩
      have HNK := hid (HNX.out k n hnk)
      have HIT := hid (HA.out n (List.mem_of_getElem? hnk))
      obtain ⟨g, rfl⟩ := owns_some HO5.out (by omega)
      have hio := owns_keep HO5.out (fun q hq => HKR.out.block q (HO5.out.lt q hq).2 (fun e => by have := (HO5.out.lt q hq).1; have := HKS.out; omega))
      have c0 : wr.cell? ⟨g, k, none⟩ = some (.int .i64 n) := by rw [owns_cell hio hlt, List.getElem?_map, hnk]; rfl
      have hin : (0 : Int) ≤ (k : Int) ∧ (k : Int) < (L.length : Int) := ⟨by omega, by omega⟩
      clear hio hnk
      go_wp2_with fail
      refine (HIT.out.2 _ HKW.out).mono ?_
      rintro r w6 ⟨rfl, hk6⟩
      have HK6 := hid (HKR.out.trans (hk6.mono (T := fun j => j = rb) (fun _ _ h => h.elim)))
      have HO6 := hid (owns_keep HO.out (fun q hq => hk6.block q (HO.out.lt q hq).2 id))
      have hl3 := HLN.out
      clear hk6 c0
      generalize itB n = tx at *
      generalize (ti :: tw :: (L.take k).map itB) = us at *
      go_wp2_with (at_builtin; go_loud (refine wpList_append_rd rfl (.tmp 21) (.tmp 24) _ rfl rb _ i0 _ 1 16 Tryd.underlying22 hi0 hz0 hz1 hz2 rfl (by decide) _ (2 + k) _ (by rfl) (HO6.out.alloc _) _ 1 _ (by rfl) (rd_block (heap_alloc_new w6 _) (by simp) (by simp [Value.oneCell'])) (by unfold maxLen; omega) (by omega) (by have := HK6.out.size; have := HRS.out; simp; omega) ?_); go_loud (intro v' w7 hown6 hgrow6 hat6 hn6; obtain ⟨vq, vd, rfl⟩ := owns_val hown6; have HO7 := hid hown6; have HB7 : Hid (∀ j, (Value.slice vq (2 + k + 1) vd).ownBlock = some j → j = rb ∨ w5.heap.size ≤ j) := hid (fun j hj => by rcases hat6 with h | h; exact HBL.out j (h ▸ hj); (rw [h] at hj; injection hj with hj; right; have := HK6.out.size; simp at hj; omega)); have HK7 := hid ((HK6.out.alloc _).grown hgrow6 (fun k hk => by rcases HBL.out k hk with h | h; exact .inr h; exact .inl h)); clear hown6 hgrow6 hat6 hn6))
      go_wp2
      go_roundw
      case rel => exact ⟨k + 1, by omega, by go_num, by rw [HNK.out, List.map_append]; exact HO7.out, HB7.out, HK7.out⟩
      case measure => simp [intOf]; omega
    · obtain rfl : k = L.length := by omega
      have g0 : decide ((L.length : Int) < (L.length : Int)) = false := decide_eq_false (by omega)
      rw [List.take_length] at HO
      have hj : Calls Tryd.prog 57 #[.slice vp (2 + L.length) vc, .string ⟨#[32]⟩] wr fun r w' => r = .returned (.string (joinB (ti :: tw :: L.map itB) 32)) ∧ Keep (fun _ => False) wr w' := by
        have hll : (ti :: tw :: L.map itB).length = 2 + L.length := by simp; omega
        have h := join_row (ti :: tw :: L.map itB) vp vc rb 21 32 wr (by rw [hll]; exact HO.out) (by rw [hll]; have := HLN.out; omega) (by omega) (fun t ht => by
          rcases List.mem_cons.1 ht with rfl | ht
          · exact HIS.out
          · rcases List.mem_cons.1 ht with rfl | ht
            · have := HWS.out; omega
            · obtain ⟨n, hn, rfl⟩ := List.mem_map.1 ht
              exact HAS.out n hn)
        rwa [hll] at h
      have HJ := hid hj
      clear hj
      go_wp2_with fail
      refine HJ.out.mono ?_
      rintro r w9 ⟨rfl, hk9⟩
      have HK9 := hid (HKW.out.trans hk9)
      clear hk9
      go_wp2
      go_ret
      exact ⟨by rw [HOL.out]; rfl, HK9.out⟩

/-- A row of texts, as an answer. -/
def TxtR (l : List ByteArray) (w : World) (r : Ending) (w' : World) : Prop := ∃ a c, r = .returned (.slice a l.length c) ∧ w'.ownsRow w.heap.size 9 1 (.slice a l.length c) l.length (l.map Value.string) ∧ Keep (fun _ => False) w w'
theorem rd_tp {w : World} {B : Nat} {p : Option Addr} {l : List ByteArray} (h : TP w B p l) (h0 : l ≠ []) (c : Nat) : Rd w 1 (.slice p l.length c) l.length (l.map Value.string) := by
  rcases h with h | ⟨b, off, rfl, _, hc⟩
  · exact absurd h h0
  · refine ⟨by simp, fun u hu => ?_, .inr ⟨_, _, rfl, fun j u hj => ?_⟩⟩
    · obtain ⟨x, _, rfl⟩ := List.mem_map.1 hu
      rfl
    · rw [List.getElem?_map] at hj
      cases hx : l[j]? with
      | none => rw [hx] at hj; cases hj
      | some x =>
        rw [hx] at hj
        injection hj with hj
        subst hj
        have h2 : w.cell? ⟨b, off + j * 1, none⟩ = some (.string x) := hc j x hx
        rw [Nat.mul_one] at h2
        rw [show (⟨b, off, none⟩ : Addr).add j = ⟨b, off + j, none⟩ by unfold Addr.add; split <;> simp_all]
        exact h2
theorem head_le {s : VSys} (h : OkY s) : (headT s).length ≤ 8 := by
  unfold headT
  rw [List.length_append]
  split
  · simp
  · rw [List.length_cons]; have := h.afl; simp only [List.length_cons, List.length_nil]; omega
theorem head_size {s : VSys} (h : OkY s) : ∀ t ∈ headT s, t.size ≤ 21 := by
  intro t ht
  unfold headT at ht
  rcases List.mem_append.1 ht with h1 | h1
  · simp only [List.mem_cons, List.not_mem_nil, or_false] at h1
    rcases h1 with rfl | rfl | rfl
    · decide
    · have := nameB_size h.name; omega
    · have h2 := Lib.itoa_length_le s.stage (by have := h.stage; omega) (by have := h.stage; omega)
      simpa [itB, ByteArray.size] using h2
  · split at h1
    · simp at h1
    · rcases List.mem_cons.1 h1 with rfl | h2
      · decide
      · have := nameB_size (h.afn h2); omega
theorem opBs {n : Nat} {x : VOp} (h : goodOp n x = true) (hk : IB x.k) : OpB x := by
  have h1 := op_bounds h
  exact ⟨by unfold IB; omega, by unfold IB; omega, by unfold IB; omega, hk⟩
theorem args_it {n : Nat} {x : VOp} {w : World} (h : goodOp n x = true) (hk : ItOk x.k w) : ∀ m ∈ argsL x, ItOk m w := by
  have h1 := op_bounds h
  intro m hm
  unfold argsL at hm
  split at hm
  · obtain rfl := List.mem_singleton.1 hm; exact hk
  · split at hm
    · obtain rfl := List.mem_singleton.1 hm; exact it_little _ (by omega) (by omega) w
    · split at hm
      · simp only [List.mem_cons, List.not_mem_nil, or_false] at hm
        rcases hm with rfl | rfl | rfl <;> exact it_little _ (by omega) (by omega) w
      · simp at hm
theorem idx_next {l : List VOp} {k : Nat} {x : VOp} (h : l[k]? = some x) : (l.take (k + 1)).mapIdx opLine = (l.take k).mapIdx opLine ++ [opLine k x] := by
  have hk := (List.getElem?_eq_some_iff.1 h).1
  rw [take_next h, List.mapIdx_append, List.length_take, Nat.min_eq_left (by omega)]
  simp

set_option maxRecDepth 20000 in
set_option maxHeartbeats 16000000 in
theorem craft_lines (s : VSys) (pa : Option Addr) (ca : Nat) (pc : Option Addr) (cc : Nat) (w : World) (h1 : s.all < 4294967296) (h2 : s.none < 4294967296) (hca : s.after.length ≤ ca) (ha : TP w w.heap.size pa s.after) (hc : VP w w.heap.size pc s.code) (hk : ∀ x ∈ s.code, IB x.k ∧ ItOk x.k w) :
    Calls Tryd.prog 17 #[SysV s pa ca pc cc] w (TxtR (linesY s) w) := by
  obtain ⟨i0, hi0, hz0, hz1, hz2⟩ := info_parts' info_strT
  have HIK := hid hk
  have HCK := hid (fun (wy : World) (hk : Keep (fun _ => False) w wy) => craft_check s pa ca pc cc wy h1 h2 hca (TP.mono (TP.low ha (Low.keep0 hk)) hk.size) (VP.mono (VP.low hc (Low.keep0 hk)) hk.size))
  have HTA := hid (fun (wy : World) (hk : Keep (fun _ => False) w wy) => TP.low ha (Low.keep0 hk))
  have HVC := hid (fun (wy : World) (hk : Keep (fun _ => False) w wy) => VP.low hc (Low.keep0 hk))
  have HQT := hid (fun w => query_text s.all s.none h1 h2 w)
  obtain ⟨w1, hw1, hb1, hs1, hk1⟩ := box1 w (SysC s pa ca pc cc) 27
  have HK1 := hid hk1
  have HLT : Hid (w.heap.size < w1.heap.size) := hid (by omega)
  have HC : Hid (∀ wy, Low w1.heap.size w1 wy → wy.cell? ⟨w.heap.size, 0, none⟩ = some (.string s.name) ∧ wy.cell? ⟨w.heap.size, 1, none⟩ = some (.int .i64 s.stage) ∧ wy.cell? ⟨w.heap.size, 2, none⟩ = some (.slice pa s.after.length ca) ∧ wy.cell? ⟨w.heap.size, 3, none⟩ = some (.int .u32 (s.all : Int)) ∧ wy.cell? ⟨w.heap.size, 4, none⟩ = some (.int .u32 (s.none : Int)) ∧ wy.cell? ⟨w.heap.size, 5, none⟩ = some (.slice pc s.code.length cc)) := hid (fun wy hl => by
    have hlt := HLT.out
    refine ⟨(hl.cell hlt).trans (cell_of hb1 (by rfl)), (hl.cell hlt).trans (cell_of hb1 (by rfl)), (hl.cell hlt).trans (cell_of hb1 (by rfl)), (hl.cell hlt).trans (cell_of hb1 (by rfl)), (hl.cell hlt).trans (cell_of hb1 (by rfl)), (hl.cell hlt).trans (cell_of hb1 (by rfl))⟩)
  clear hb1 hs1 hk1 h1 h2 hca ha hc hk
  have HLW : Hid (∀ wy, Keep (fun _ => False) w1 wy → Low w1.heap.size w1 wy) := hid (fun wy h => Low.keep0 h)
  have HWB : Hid (w.heap.size ≤ w.heap.size) := hid (Nat.le_refl _)
  go_enter Tryd.func17, Tryd.ntmps17
  go_upto_region 1 with fail
  rw [← hw1]
  clear hw1
  generalize hsb : w.heap.size = sb at *
  obtain ⟨c0, c1, c2, c3, c4, c5⟩ := HC.out _ Low.refl
  go_wp2_with fail
  refine (HCK.out _ HK1.out).mono ?_
  rintro r w2 ⟨rfl, hk2⟩
  have HK12 := hid hk2
  have HK2 := hid (HK1.out.trans hk2)
  clear hk2 c0 c1 c2 c3 c4 c5
  by_cases hz : sysC s = 0
  rotate_left
  · have HE : Hid (linesY s = []) := hid (if_neg hz)
    obtain ⟨R, hR⟩ : ∃ R, sysC s = R := ⟨_, rfl⟩
    rw [hR] at hz ⊢
    have g1 : ((R : Int) != 0) = true := by rw [bne_iff_ne]; omega
    have g2 : (R != 0) = true := by rw [bne_iff_ne]; exact hz
    clear hz hR
    go_wp2
    go_ret
    unfold TxtR
    rw [HE.out]
    exact ⟨none, 0, rfl, World.ownsRow_nil _ _ _ _, HK2.out⟩
  have HOK := hid (sys_oky hz)
  have HE : Hid (linesY s = joinB (headT s) 32 :: queryL s :: s.code.mapIdx opLine) := hid (if_pos hz)
  rw [hz]
  clear hz
  have HSIT := hid (it_little s.stage HOK.out.stage.1 (by have := HOK.out.stage.2; omega) w)
  have HHL := hid (head_le HOK.out)
  have HHZ := hid (head_size HOK.out)
  have HH1 : Hid (s.after = [] → headT s = [⟨#[115, 121, 115, 116, 101, 109]⟩, s.name, itB s.stage]) := hid (fun h => by unfold headT; rw [if_pos h, List.append_nil])
  have HH2 : Hid (s.after ≠ [] → headT s = ([⟨#[115, 121, 115, 116, 101, 109]⟩, s.name, itB s.stage] ++ [⟨#[97, 102, 116, 101, 114]⟩]) ++ s.after) := hid (fun h => by unfold headT; rw [if_neg h]; simp)
  have HAL := hid HOK.out.afl
  generalize headT s = HT at *
  obtain ⟨ti, hti⟩ : ∃ ti, itB s.stage = ti := ⟨_, rfl⟩
  rw [hti] at HH1 HH2
  go_upto_region 3 with fail
  obtain ⟨c0, c1, c2, c3, c4, c5⟩ := HC.out w2.drew (Low.keep0 HK12.out.drew)
  refine Plan.wp_region_pl [(false, 0, []), (false, 1, []), (false, 2, []), (false, 3, []), (true, 4, [1, 0]), (true, 5, []), (false, 6, [])] (by as_aux_lemma => kernel_rfl) (by as_aux_lemma => kernel_rfl) ?_
  iterate 4 (refine Plan.pl_st rfl ?_; go_big_quiet_step (fail); refine wpQuiet_nil ?_)
  refine Plan.pl_ac rfl ?_
  go_wp2_with fail
  refine (HSIT.out.2 _ HK2.out.drew).mono ?_
  rw [hti]
  clear hti
  rintro r w3 ⟨rfl, hk⟩
  have HK13 := hid (HK12.out.drew.trans hk)
  have HK3 := hid (HK2.out.drew.trans hk)
  clear hk c0 c1 c2 c3 c4 c5
  obtain ⟨c0, c1, c2, c3, c4, c5⟩ := HC.out w3 (Low.keep0 HK13.out)
  go_wp2
  refine Plan.plQ_mk ?_ ?_
  · iterate 2 (refine Plan.chk_st rfl ?_ ?_; focus (go_big_quiet_step (fail); exact wpQuiet_nil rfl))
    exact Plan.chk_end
  obtain ⟨w4, hw4, hb4, hs4, hk4⟩ := box1 w3 #[.string ⟨#[115, 121, 115, 116, 101, 109]⟩, .string s.name, .string ti] 9
  have HO4 : Hid (w4.ownsRow w3.heap.size 9 1 (.slice (some ⟨w3.heap.size, 0, none⟩) 3 3) 3 ([⟨#[115, 121, 115, 116, 101, 109]⟩, s.name, ti].map Value.string)) := hid (row_made hb4 (Nat.le_refl _) rfl (by unfold maxLen; omega))
  have HK14 := hid (HK13.out.trans hk4)
  have HK4 := hid (HK3.out.trans hk4)
  have HKS : Hid (w3.heap.size < w4.heap.size) := hid (lt_of_heap hb4)
  have HWR : Hid (sb ≤ w3.heap.size) := hid (by have := HK3.out.size; omega)
  have HW1R : Hid (w1.heap.size ≤ w3.heap.size) := hid HK13.out.size
  clear hb4 hs4 hk4
  refine Plan.pl_ac rfl ?_
  go_wp2
  rw [← hw4]
  clear hw4
  refine Plan.plQ_mk Plan.chk_end ?_
  refine Plan.pl_st rfl ?_; go_big_quiet_step (fail); refine wpQuiet_nil ?_
  refine Plan.pl_end ?_
  generalize w3.heap.size = hb at *
  clear c0 c1 c2 c3 c4 c5
  obtain ⟨c0, c1, c2, c3, c4, c5⟩ := HC.out w4 (Low.keep0 HK14.out)
  go_upto_if 19 with fail
  go_cut [3] from 19 to 25 (fun v wx => ∃ (p : Option Addr) (c : Nat), v = .slice p HT.length c ∧ wx.ownsRow hb 9 1 (.slice p HT.length c) HT.length (HT.map Value.string) ∧ Keep (fun j => j = hb) w4 wx)
  case first =>
    by_cases hA : s.after = []
    · have HHE := hid (HH1.out hA)
      have g1 : decide ((0 : Int) < (s.after.length : Int)) = false := by rw [hA]; rfl
      have g2 : decide (0 < s.after.length) = false := by rw [hA]; rfl
      clear hA
      rw [g2]
      go_wp2
      go_meet
      case rel => exact ⟨_, _, by rw [HHE.out]; rfl, by rw [HHE.out]; exact HO4.out, Keep.refl _ _⟩
    · have HHE := hid (HH2.out hA)
      have hpos : 0 < s.after.length := List.length_pos_iff.2 hA
      have g1 : decide ((0 : Int) < (s.after.length : Int)) = true := decide_eq_true (by omega)
      have g2 : decide (0 < s.after.length) = true := decide_eq_true hpos
      have HNE := hid hA
      have HPOS := hid hpos
      clear hA hpos
      rw [g2]
      clear c0 c1 c2 c3 c4 c5
      obtain ⟨c0, c1, c2, c3, c4, c5⟩ := HC.out w4 (Low.keep0 HK14.out)
      go_upto_region 5 with fail
      clear c0 c1 c2 c3 c4 c5
      have HKD := hid ((Keep.refl (fun _ => False) w4).drew)
      have HOD := hid (owns_keep (w' := w4.drew) HO4.out (fun _ _ => rfl))
      have HK1D := hid HK14.out.drew
      refine Plan.wp_region_pl [(false, 0, []), (false, 3, []), (false, 4, []), (true, 1, [4, 3, 0]), (true, 2, [4, 3]), (true, 5, []), (true, 6, [])] (by as_aux_lemma => kernel_rfl) (by as_aux_lemma => kernel_rfl) ?_
      generalize w4.drew = wd at *
      obtain ⟨c0, c1, c2, c3, c4, c5⟩ := HC.out wd (Low.keep0 HK1D.out)
      iterate 3 (refine Plan.pl_st rfl ?_; go_big_quiet_step (fail); refine wpQuiet_nil ?_)
      obtain ⟨w5, hw5, hb5, hs5, hk5⟩ := box1 wd #[.string ⟨#[97, 102, 116, 101, 114]⟩] 9
      have HB5 := hid hb5
      have HO5 := hid (owns_keep (w' := w5) HOD.out (fun j hj => hk5.block j (HOD.out.lt j hj).2 id))
      have HK15 := hid (HK1D.out.trans hk5)
      have HK45 := hid (HKD.out.trans hk5)
      clear hb5 hs5 hk5 c0 c1 c2 c3 c4 c5
      obtain ⟨c0, c1, c2, c3, c4, c5⟩ := HC.out w5 (Low.keep0 HK15.out)
      refine Plan.pl_ac rfl ?_
      go_wp2
      rw [← hw5]
      clear hw5
      refine Plan.plQ_mk ?_ ?_
      · iterate 3 (refine Plan.chk_st rfl ?_ ?_; focus (go_big_quiet_step (fail); exact wpQuiet_nil rfl))
        exact Plan.chk_end
      refine Plan.pl_ac rfl ?_
      refine wpList_append_rd rfl _ _ _ rfl hb _ i0 _ 1 16 Tryd.underlying22 hi0 hz0 hz1 hz2 rfl (by decide) _ 3 _ (by rfl) HO5.out _ 1 [.string ⟨#[97, 102, 116, 101, 114]⟩] (by rfl) (rd_block HB5.out (by simp) (by simp [Value.oneCell'])) (by unfold maxLen; omega) (by omega) (by have := HKS.out; have := HK45.out.size; omega) ?_
      intro v' w6 hown6 hgrow6 hat6 hn6
      obtain ⟨vq, vd, rfl⟩ := owns_val hown6
      have HO6 := hid hown6
      have HB6 : Hid (∀ j, (Value.slice vq (3 + 1) vd).ownBlock = some j → j = hb ∨ w4.heap.size ≤ j) := hid (fun j hj => by
        rcases hat6 with h | h
        · rw [h] at hj; simp [Value.ownBlock] at hj; exact .inl hj.symm
        · rw [h] at hj; injection hj with hj; right; have := HK45.out.size; omega)
      have HK46 := hid ((HK45.out.mono (T := fun j => j = hb) (fun _ _ h => h.elim)).grown hgrow6 (fun k hk => by simp [Value.ownBlock] at hk; exact .inr hk.symm))
      have HK16 := hid (keep_new HK14.out HK46.out (fun j e => by have := HW1R.out; omega))
      have HK06 := hid (keep_new HK4.out HK46.out (fun j e => by have := HWR.out; omega))
      clear hown6 hgrow6 hat6 hn6 c0 c1 c2 c3 c4 c5
      obtain ⟨c0, c1, c2, c3, c4, c5⟩ := HC.out w6 (Low.keep0 HK16.out)
      go_wp2
      refine Plan.plQ_mk ?_ ?_
      · iterate 2 (refine Plan.chk_st rfl ?_ ?_; focus (go_big_quiet_step (fail); exact wpQuiet_nil rfl))
        exact Plan.chk_end
      refine Plan.pl_ac rfl ?_
      refine wpList_append_rd rfl _ _ _ rfl hb _ i0 _ 1 16 Tryd.underlying22 hi0 hz0 hz1 hz2 rfl (by decide) _ (3 + 1) _ (by rfl) HO6.out _ s.after.length _ (by rfl) (rd_tp (HTA.out w6 HK06.out) HNE.out ca) (by unfold maxLen; have := HAL.out; omega) (by have := HAL.out; omega) (by have := HKS.out; have := HK46.out.size; omega) ?_
      intro v' w7 hown7 hgrow7 hat7 hn7
      obtain ⟨vr, ve, rfl⟩ := owns_val hown7
      have HO7 := hid hown7
      have HK47 := hid (HK46.out.grown hgrow7 (fun k hk => by rcases HB6.out k hk with h | h; exact .inr h; exact .inl h))
      clear hown7 hgrow7 hat7 hn7 c0 c1 c2 c3 c4 c5
      go_wp2
      refine Plan.plQ_mk Plan.chk_end ?_
      refine Plan.pl_ac rfl ?_
      go_wp2
      refine Plan.plQ_mk Plan.chk_end ?_
      refine Plan.pl_end ?_
      have HLE : Hid (HT.length = 3 + 1 + s.after.length) := hid (by rw [HHE.out]; simp; omega)
      go_wp2
      go_meet
      case rel => exact ⟨vr, ve, by rw [HLE.out], by rw [HLE.out, HHE.out]; have h := HO7.out; rw [List.map_append, List.map_append]; exact h, HK47.out⟩
  case rest =>
  obtain ⟨hp, hc, rfl, hho, hhk⟩ := hcut
  have HKC := hid (keep_new HK4.out hhk (fun j e => by have := HWR.out; omega))
  have HK1C := hid (keep_new HK14.out hhk (fun j e => by have := HW1R.out; omega))
  have HJ : Hid (∀ wy, Keep (fun _ => False) wc wy → Calls Tryd.prog 57 #[.slice hp HT.length hc, .string ⟨#[32]⟩] wy fun r w' => r = .returned (.string (joinB HT 32)) ∧ Keep (fun _ => False) wy w') := hid (fun wy hky => join_row HT hp hc hb 21 32 wy (owns_keep hho (fun j hj => hky.block j (hho.lt j hj).2 id)) (by have := HHL.out; omega) (by omega) HHZ.out)
  have hjs : (joinB HT 32).size ≤ 1000 := by
    show ((Lib.join _ [32]).toArray).size ≤ 1000
    rw [List.size_toArray]
    refine Nat.le_trans (join_le (M := 21) ?_) ?_
    · intro x hx
      obtain ⟨y, hy, rfl⟩ := List.mem_map.1 hx
      rw [Array.length_toList]
      exact HHZ.out y hy
    · rw [List.length_map]; have := HHL.out; omega
  have HQL : Hid (queryL s = ⟨#[113, 117, 101, 114, 121, 32]⟩ ++ (sigT s.all ++ ⟨#[32, 110, 111, 116, 32]⟩ ++ sigT s.none)) := hid rfl
  have hqs : (sigT s.all ++ ⟨#[32, 110, 111, 116, 32]⟩ ++ sigT s.none).size ≤ 1300 := by
    rw [ByteArray.size_append, ByteArray.size_append]
    have a := sigT_size (n := s.all); have b := sigT_size (n := s.none)
    have c : (⟨#[32, 110, 111, 116, 32]⟩ : ByteArray).size = 5 := rfl
    omega
  clear hho hhk hjs
  generalize joinB HT 32 = jt at *
  generalize queryL s = ql at *
  generalize sigT s.all ++ ⟨#[32, 110, 111, 116, 32]⟩ ++ sigT s.none = qt at *
  generalize HT.length = hn at *
  have y1 : ¬ (9223372036854775807 < 6 + qt.size) := by omega
  clear hqs c0 c1 c2 c3 c4 c5 HH1 HH2 HHL HHZ HO4
  go_upto_region 6 with fail
  have HK1E := hid HK1C.out.drew
  have HKE := hid HKC.out.drew
  have HJE := hid (HJ.out wc.drew (Keep.refl _ wc).drew)
  clear HJ
  refine Plan.wp_region_pl [(false, 0, []), (false, 2, []), (false, 3, []), (false, 4, []), (false, 5, []), (false, 6, []), (true, 1, [6, 5, 4, 3, 2]), (true, 7, []), (false, 8, []), (true, 9, []), (false, 10, [])] (by as_aux_lemma => kernel_rfl) (by as_aux_lemma => kernel_rfl) ?_
  generalize wc.drew = we at *
  obtain ⟨c0, c1, c2, c3, c4, c5⟩ := HC.out we (Low.keep0 HK1E.out)
  iterate 6 (refine Plan.pl_st rfl ?_; go_big_quiet_step (fail); refine wpQuiet_nil ?_)
  refine Plan.pl_ac rfl ?_
  go_wp2_with fail
  refine HJE.out.mono ?_
  rintro r w5 ⟨rfl, hk⟩
  have HK15 := hid (HK1E.out.trans hk)
  have HK5 := hid (HKE.out.trans hk)
  clear hk c0 c1 c2 c3 c4 c5
  obtain ⟨c0, c1, c2, c3, c4, c5⟩ := HC.out w5 (Low.keep0 HK15.out)
  go_wp2
  refine Plan.plQ_mk ?_ ?_
  · iterate 5 (refine Plan.chk_st rfl ?_ ?_; focus (go_big_quiet_step (fail); exact wpQuiet_nil rfl))
    exact Plan.chk_end
  refine Plan.pl_ac rfl ?_
  go_wp2_with fail
  refine (HQT.out w5).mono ?_
  rintro r w6 ⟨rfl, hk⟩
  have HK16 := hid (HK15.out.trans hk)
  have HK6 := hid (HK5.out.trans hk)
  clear hk c0 c1 c2 c3 c4 c5
  go_wp2
  refine Plan.plQ_mk Plan.chk_end ?_
  iterate 1 (refine Plan.pl_st rfl ?_; go_big_quiet_step (fail); refine wpQuiet_nil ?_)
  rw [← HQL.out]
  clear y1
  obtain ⟨w7, hw7, hb7, hs7, hk7⟩ := box1 w6 #[.string jt, .string ql] 9
  have HO7 : Hid (w7.ownsRow w6.heap.size 9 1 (.slice (some ⟨w6.heap.size, 0, none⟩) 2 2) 2 ([jt, ql].map Value.string)) := hid (row_made hb7 (Nat.le_refl _) rfl (by unfold maxLen; omega))
  have HK17 := hid (HK16.out.trans hk7)
  have HK7 := hid (HK6.out.trans hk7)
  have HKS7 : Hid (w6.heap.size < w7.heap.size) := hid (lt_of_heap hb7)
  have HWO : Hid (sb ≤ w6.heap.size) := hid (by have := HK6.out.size; omega)
  have HW1O : Hid (w1.heap.size ≤ w6.heap.size) := hid HK16.out.size
  clear hb7 hs7 hk7
  refine Plan.pl_ac rfl ?_
  go_wp2
  rw [← hw7]
  clear hw7
  refine Plan.plQ_mk Plan.chk_end ?_
  refine Plan.pl_st rfl ?_; go_big_quiet_step (fail); refine wpQuiet_nil ?_
  refine Plan.pl_end ?_
  generalize w6.heap.size = ob at *
  obtain ⟨c0, c1, c2, c3, c4, c5⟩ := HC.out w7 (Low.keep0 HK17.out)
  go_wp2_with fail
  clear c0 c1 c2 c3 c4 c5
  have HCL := hid HOK.out.cdl
  have HLY : Hid (linesY s = jt :: ql :: s.code.mapIdx opLine) := HE
  generalize linesY s = LY at *
  go_loopw [4, 5, 6, 39] (fun v _ _ i wr => ∃ k : Nat, k ≤ s.code.length ∧ i = iV k ∧ wr.ownsRow ob 9 1 v (2 + k) ((jt :: ql :: (s.code.take k).mapIdx opLine).map Value.string) ∧ (∀ j, v.ownBlock = some j → j = ob ∨ w7.heap.size ≤ j) ∧ Keep (fun j => j = ob) w7 wr) (fun _ _ _ i _ => s.code.length + 1 - (intOf i).toNat)
  case atStart => exact ⟨0, Nat.zero_le _, rfl, HO7.out, fun j hj => .inl (by simp [Value.ownBlock] at hj; exact hj.symm), Keep.refl _ _⟩
  case round =>
    obtain ⟨k, hk, rfl, how, hbl, hkr⟩ := hrel
    obtain ⟨vp, vc, rfl⟩ := owns_val how
    have HO := hid how; have HKR := hid hkr; have HBL := hid hbl
    have HKW := hid (keep_new HK7.out hkr (fun j e => by have := HWO.out; omega))
    clear how hkr hbl
    by_cases hlt : k < s.code.length
    · obtain ⟨x, hx⟩ : ∃ x, s.code[k]? = some x := ⟨s.code[k], by simp [hlt]⟩
      have HNX : Hid (jt :: ql :: (s.code.take (k + 1)).mapIdx opLine = (jt :: ql :: (s.code.take k).mapIdx opLine) ++ [opLine k x]) := hid (by rw [idx_next hx]; rfl)
      have HGX := hid (HOK.out.cod x (List.mem_of_getElem? hx))
      have HIX := hid (HIK.out x (List.mem_of_getElem? hx))
      obtain ⟨b, off, rfl, hb2, d0, d1, d2, d3, d4⟩ := VP.at (HVC.out wr HKW.out) hx
      have hin : (0 : Int) ≤ (k : Int) ∧ (k : Int) < (s.code.length : Int) := ⟨by omega, by omega⟩
      clear hx hb2
      obtain ⟨wx, hwx, hbx, hsx, hkx⟩ := box1 wr (OC x) 50
      have HXC := hid hbx
      have HKX := hid (HKR.out.trans (hkx.mono (T := fun j => j = ob) (fun _ _ h => h.elim)))
      have HKWX := hid (HKW.out.trans hkx)
      have HOX := hid (owns_keep HO.out (fun q hq => hkx.block q (HO.out.lt q hq).2 id))
      clear hbx hsx hkx
      go_upto_region 10 with fail
      rw [← hwx]
      clear hwx d0 d1 d2 d3 d4
      generalize wr.heap.size = xb at *
      have e0 := cell_of HXC.out (i := 0) (by rfl)
      have e1 := cell_of HXC.out (i := 1) (by rfl)
      have e2 := cell_of HXC.out (i := 2) (by rfl)
      have e3 := cell_of HXC.out (i := 3) (by rfl)
      have e4 := cell_of HXC.out (i := 4) (by rfl)
      simp only [List.getElem_toArray, List.getElem_cons_succ, List.getElem_cons_zero] at e0 e1 e2 e3 e4
      go_wp2_with fail
      refine (craft_line k x (opBs HGX.out HIX.out.1) _ (it_little (k : Int) (by omega) (by have := HCL.out; omega) _) (fun m hm => (args_it HGX.out HIX.out.2 m hm).keep HKWX.out)).mono ?_
      rintro r w8 ⟨rfl, hk8⟩
      have HK8 := hid (HKX.out.trans (hk8.mono (T := fun j => j = ob) (fun _ _ h => h.elim)))
      have HO8 := hid (owns_keep HOX.out (fun q hq => hk8.block q (HOX.out.lt q hq).2 id))
      have hl64 := HCL.out
      clear hk8 e0 e1 e2 e3 e4
      generalize opLine k x = tx at *
      generalize (jt :: ql :: (s.code.take k).mapIdx opLine) = us at *
      go_wp2_with (at_builtin; go_loud (refine wpList_append_rd rfl (.tmp 44) (.tmp 48) _ rfl ob _ i0 _ 1 16 Tryd.underlying22 hi0 hz0 hz1 hz2 rfl (by decide) _ (2 + k) _ (by rfl) (HO8.out.alloc _) _ 1 _ (by rfl) (rd_block (heap_alloc_new w8 _) (by simp) (by simp [Value.oneCell'])) (by unfold maxLen; omega) (by omega) (by have := HK8.out.size; have := HKS7.out; simp; omega) ?_); go_loud (intro v' w9 hown6 hgrow6 hat6 hn6; obtain ⟨vq, vd, rfl⟩ := owns_val hown6; have HO9 := hid hown6; have HB9 : Hid (∀ j, (Value.slice vq (2 + k + 1) vd).ownBlock = some j → j = ob ∨ w7.heap.size ≤ j) := hid (fun j hj => by rcases hat6 with h | h; exact HBL.out j (h ▸ hj); (rw [h] at hj; injection hj with hj; right; have := HK8.out.size; simp at hj; omega)); have HK9 := hid ((HK8.out.alloc _).grown hgrow6 (fun k hk => by rcases HBL.out k hk with h | h; exact .inr h; exact .inl h)); clear hown6 hgrow6 hat6 hn6))
      go_wp2
      go_roundw
      case rel => exact ⟨k + 1, by omega, by go_num, by rw [HNX.out, List.map_append]; exact HO9.out, HB9.out, HK9.out⟩
      case measure => simp [intOf]; omega
    · obtain rfl : k = s.code.length := by omega
      have g0 : decide ((s.code.length : Int) < (s.code.length : Int)) = false := decide_eq_false (by omega)
      rw [List.take_length] at HO
      have HLL : Hid (LY.length = 2 + s.code.length) := hid (by rw [HLY.out]; simp; omega)
      go_wp2
      go_ret
      unfold TxtR
      rw [HLL.out, HLY.out]
      exact ⟨_, _, rfl, owns_mono HO.out (by rw [hsb]; exact HWO.out), HKW.out⟩
end Go.Proofs.YtbnhdmalkmcalaaDoor
