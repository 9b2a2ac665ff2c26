/- What is proved: craft.Decode, in full. -/
import Derived.Test.YtbnhdmalkmcalaaDoorMRdr
import Derived.Test.YtbnhdmalkmcalaaDoorMCrLine
import Derived.Test.YtbnhdmalkmcalaaDoorMRegion
import Derived.Test.YtbnhdmalkmcalaaDoorMRf9
namespace Go.Proofs.YtbnhdmalkmcalaaDoor
open Go.RowKit Go.Proofs.Heap Go.Proofs.Sch

theorem results_ctc {fn : Func} {p u : Tmp} {ty : TypeId} (h : fn.results = #[.cell p ty, .tmp u]) (tmps : Array Value) {P : Program} {w : World} {ad : Addr} {v : Value}
    (hp : tmps.getD p undef = .pointer (some ad)) (hl : (loadVar ty ad).run P w = .ok v w) : (results fn tmps).run P w = .ok (.tuple #[v, tmps.getD u undef]) w := by
  have hp' : tmps[p]?.getD undef = .pointer (some ad) := by simpa using hp
  simp [results, h, hp', asAddr, hl]
theorem info_sys6 : (Tryd.prog.info? 27).map (·.size) = some 6 := by kernel_rfl
theorem load_sys {w : World} {b : Nat} {x0 x1 x2 x3 x4 x5 : Value} (h : w.heap[b]? = some (.cells #[x0, x1, x2, x3, x4, x5] 27 (0, 0))) : (loadVar 27 ⟨b, 0, none⟩).run Tryd.prog w = .ok (.agg #[x0, x1, x2, x3, x4, x5]) w :=
  run_loadVar_row w b _ 27 _ _ _ h Tryd.underlying27 rfl (by rw [info_sys6]; rfl)
theorem info_strC : (Tryd.prog.info? 9).map (fun i => (i.zero, i.size, i.bytes)) = some (some (.string ⟨#[]⟩), 1, 16) := by kernel_rfl
theorem info_opC : (Tryd.prog.info? 50).map (fun i => (i.zero, i.size, i.bytes)) = some (some (.agg #[.int .i64 0, .int .i64 0, .int .i64 0, .int .i64 0, .int .i64 0]), 5, 40) := by kernel_rfl
abbrev sV (s : ByteArray) : Value := .string s
def opc (x : VOp) : List Value := [.int .i64 x.code, .int .i64 x.a, .int .i64 x.b, .int .i64 x.c, .int .i64 x.k]
theorem opc_len (l : List VOp) : (l.flatMap opc).length = l.length * 5 := by
  induction l with
  | nil => rfl
  | cons a l ih => rw [List.flatMap_cons, List.length_append, ih, List.length_cons]; simp [opc]; omega
theorem opc_one (l : List VOp) : ∀ u ∈ l.flatMap opc, u.oneCell' = true := by
  intro u hu
  obtain ⟨x, _, hx⟩ := List.mem_flatMap.1 hu
  simp [opc] at hx
  rcases hx with rfl | rfl | rfl | rfl | rfl <;> rfl
theorem sV_one (l : List ByteArray) : ∀ u ∈ l.map sV, u.oneCell' = true := by
  intro u hu
  obtain ⟨x, _, rfl⟩ := List.mem_map.1 hu
  rfl

theorem flat_getR {α β : Type} {f : α → List β} {z : Nat} (hf : ∀ x, (f x).length = z) : ∀ {l : List α} {i r : Nat} {x : α}, l[i]? = some x → r < z → (l.flatMap f)[i * z + r]? = (f x)[r]?
  | [], i, r, x, h, _ => by simp at h
  | a :: l, 0, r, x, h, hr => by
    simp at h
    subst h
    rw [List.flatMap_cons, Nat.zero_mul, Nat.zero_add, List.getElem?_append_left (by rw [hf]; exact hr)]
  | a :: l, i + 1, r, x, h, hr => by
    rw [List.flatMap_cons, List.getElem?_append_right (by rw [hf]; rw [Nat.succ_mul]; omega), hf, show (i + 1) * z + r - z = i * z + r by rw [Nat.succ_mul]; omega]
    exact flat_getR hf (by simpa using h) hr
theorem owns_flatR {α : Type} {f : α → List Value} {z : Nat} (hf : ∀ x, (f x).length = z) {w : World} {base n c g i r : Nat} {e : TypeId} {l : List α} {x : α} {u : Value} (h : w.ownsRow base e z (.slice (some ⟨g, 0, none⟩) n c) n (l.flatMap f)) (hx : l[i]? = some x) (hr : r < z) (hu : (f x)[r]? = some u) : w.cell? ⟨g, i * z + r, none⟩ = some u := by
  have h1 := flat_getR hf hx hr
  rw [hu] at h1
  have h2 := h.cells (g := g) rfl (i * z + r) u h1
  have hadd : (⟨g, 0, none⟩ : Addr).add (i * z + r) = ⟨g, i * z + r, none⟩ := by unfold Addr.add; split <;> simp_all
  rwa [hadd] at h2
theorem tp_own {w : World} {base c : Nat} {e : TypeId} {p : Option Addr} {l : List ByteArray} (h : w.ownsRow base e 1 (.slice p l.length c) l.length (l.map sV)) : TP w w.heap.size p l := by
  rcases Nat.eq_zero_or_pos l.length with h0 | h0
  · exact .inl (List.eq_nil_of_length_eq_zero h0)
  · obtain ⟨q, rfl⟩ := owns_some h h0
    refine .inr ⟨q, 0, rfl, (h.lt q (by simp [Value.ownBlock])).2, fun i x hx => ?_⟩
    have h1 := owns_cell h (List.getElem?_eq_some_iff.1 hx).1
    rw [List.getElem?_map, hx] at h1
    show w.cell? ⟨q, 0 + i * 1, none⟩ = _
    rw [Nat.zero_add, Nat.mul_one]
    exact h1
theorem vp_ownC {w : World} {base c : Nat} {e : TypeId} {p : Option Addr} {l : List VOp} (h : w.ownsRow base e 5 (.slice p l.length c) l.length (l.flatMap opc)) : VP w w.heap.size p l := by
  rcases Nat.eq_zero_or_pos l.length with h0 | h0
  · exact .inl (List.eq_nil_of_length_eq_zero h0)
  · obtain ⟨q, rfl⟩ := owns_some h h0
    refine .inr ⟨q, 0, rfl, (h.lt q (by simp [Value.ownBlock])).2, fun i x hx => ?_⟩
    have hf : ∀ x, (opc x).length = 5 := fun _ => rfl
    rw [Nat.zero_add]
    exact ⟨owns_flatR hf h hx (r := 0) (by omega) rfl, owns_flatR hf h hx (r := 1) (by omega) rfl, owns_flatR hf h hx (r := 2) (by omega) rfl, owns_flatR hf h hx (r := 3) (by omega) rfl, owns_flatR hf h hx (r := 4) (by omega) rfl⟩
/-- A system stored whole. -/
def sy6 (w : World) (b : Nat) (x0 x1 x2 x3 x4 x5 : Value) : World := (((((w.setCell ⟨b, 0, none⟩ x0).setCell ⟨b, 1, none⟩ x1).setCell ⟨b, 2, none⟩ x2).setCell ⟨b, 3, none⟩ x3).setCell ⟨b, 4, none⟩ x4).setCell ⟨b, 5, none⟩ x5
theorem sy6_heap {w : World} {b : Nat} {a0 a1 a2 a3 a4 a5 : Value} {t : TypeId} (x0 x1 x2 x3 x4 x5 : Value) (h : w.heap[b]? = some (.cells #[a0, a1, a2, a3, a4, a5] t (0, 0))) : (sy6 w b x0 x1 x2 x3 x4 x5).heap[b]? = some (.cells #[x0, x1, x2, x3, x4, x5] t (0, 0)) := by
  unfold sy6; rw [hsc_same (hsc_same (hsc_same (hsc_same (hsc_same (hsc_same h 0 x0) 1 x1) 2 x2) 3 x3) 4 x4) 5 x5]; rfl
theorem sy6_keep (w : World) (b : Nat) (x0 x1 x2 x3 x4 x5 : Value) : Keep (fun k => k = b) w (sy6 w b x0 x1 x2 x3 x4 x5) :=
  ((((((Keep.refl (fun k => k = b) w).setCell (p := ⟨b, 0, none⟩) rfl x0).setCell (p := ⟨b, 1, none⟩) rfl x1).setCell (p := ⟨b, 2, none⟩) rfl x2).setCell (p := ⟨b, 3, none⟩) rfl x3).setCell (p := ⟨b, 4, none⟩) rfl x4).setCell (p := ⟨b, 5, none⟩) rfl x5

/-- What Decode answers. -/
def DecP (s : ByteArray) (w : World) (r : Ending) (w' : World) : Prop := ∃ pa ca pc cc, r = .returned (.tuple #[SysV (decY s) pa ca pc cc, .int .i64 (decE s : Int)]) ∧ (decY s).after.length ≤ ca ∧ TP w' w'.heap.size pa (decY s).after ∧ VP w' w'.heap.size pc (decY s).code ∧ Keep (fun _ => False) w w'
set_option maxRecDepth 20000 in
set_option maxHeartbeats 32000000 in
theorem craft_decode (s : ByteArray) (w : World) (hs : s.size ≤ 9223372036854775807) :
    Calls Tryd.prog 19 #[.string s] w (DecP s w) := by
  obtain ⟨⟨m, st1⟩, e1⟩ : ∃ x, rdN 1 (s, false) = x := ⟨_, rfl⟩
  obtain ⟨⟨nm, st2⟩, e2⟩ : ∃ x, rdNm st1 = x := ⟨_, rfl⟩
  obtain ⟨⟨sg, st3⟩, e3⟩ : ∃ x, rdN 1 st2 = x := ⟨_, rfl⟩
  obtain ⟨⟨n, st4⟩, e4⟩ : ∃ x, rdN 1 st3 = x := ⟨_, rfl⟩
  obtain ⟨⟨af, st5⟩, e5⟩ : ∃ x, rdRow rdNm n st4 = x := ⟨_, rfl⟩
  obtain ⟨⟨al, st6⟩, e6⟩ : ∃ x, rdN 4 st5 = x := ⟨_, rfl⟩
  obtain ⟨⟨no, st7⟩, e7⟩ : ∃ x, rdN 4 st6 = x := ⟨_, rfl⟩
  obtain ⟨⟨cn, st8⟩, e8⟩ : ∃ x, rdN 1 st7 = x := ⟨_, rfl⟩
  obtain ⟨⟨cd, st9⟩, e9⟩ : ∃ x, rdRow rdOp cn st8 = x := ⟨_, rfl⟩
  have HP : Hid (partsY s = ⟨m, ⟨nm, (sg : Int), af, al, no, cd⟩, st9⟩) := hid (by unfold partsY; simp only [e1, e2, e3, e4, e5, e6, e7, e8, e9])
  have z1 := rdN_size 1 (s, false); rw [e1] at z1
  have z2 := rdNm_size st1; rw [e2] at z2
  have z3 := rdN_size 1 st2; rw [e3] at z3
  have z4 := rdN_size 1 st3; rw [e4] at z4
  have l1 := rdN_lt 1 (s, false); rw [e1] at l1
  have l3 := rdN_lt 1 st2; rw [e3] at l3
  have l4 := rdN_lt 1 st3; rw [e4] at l4
  have l6 := rdN_lt 4 st5; rw [e6] at l6
  have l7 := rdN_lt 4 st6; rw [e7] at l7
  have l8 := rdN_lt 1 st7; rw [e8] at l8
  have C1 := fun b wy (h : RdS wy b s false) => rd_num b (s, false) 1 (by unfold WideOk; omega) wy hs h
  have C2 := fun b wy (h : RdS wy b st1.1 st1.2) => rd_nm b st1 wy (by simp only at z1; omega) h
  have C3 := fun b wy (h : RdS wy b st2.1 st2.2) => rd_num b st2 1 (by unfold WideOk; omega) wy (by simp only at z1 z2; omega) h
  have C4 := fun b wy (h : RdS wy b st3.1 st3.2) => rd_num b st3 1 (by unfold WideOk; omega) wy (by simp only at z1 z2 z3; omega) h
  rw [e1] at C1; rw [e2] at C2; rw [e3] at C3; rw [e4] at C4
  have HC1 := hid C1; have HC2 := hid C2; have HC3 := hid C3; have HC4 := hid C4
  have HZ4 : Hid (st4.1.size ≤ 9223372036854775807) := hid (by simp only at z1 z2 z3 z4; omega)
  have HE5 := hid e5; have HE6 := hid e6; have HE7 := hid e7; have HE8 := hid e8; have HE9 := hid e9
  have hm : m < 256 := l1
  have hsg : sg < 256 := l3
  have hn : n < 256 := l4
  have hal : al < 4294967296 := l6
  have hno : no < 4294967296 := l7
  have hcn : cn < 256 := l8
  have HAL := hid hal; have HNO := hid hno; have HCN := hid hcn; have HN := hid hn; have HM := hid hm; have HSG := hid hsg
  clear e1 e2 e3 e4 e5 e6 e7 e8 e9 z1 z2 z3 z4 l1 l3 l4 l6 l7 l8 C1 C2 C3 C4 hm hsg hn hal hno hcn hs
  obtain ⟨w1, hw1, hb1, hs1, hk1⟩ := box1 w #[.string ⟨#[]⟩, .int .i64 0, .slice none 0 0, .int .u32 0, .int .u32 0, .slice none 0 0] 27
  have HK1 := hid hk1
  have HA1 := hid hb1
  have HLT : Hid (w.heap.size < w1.heap.size) := hid (by omega)
  clear hb1 hs1 hk1
  go_enter Tryd.func19, Tryd.ntmps19
  go_upto_region 1 with fail
  rw [← hw1]
  clear hw1
  obtain ⟨A, hA⟩ : ∃ A, w.heap.size = A := ⟨_, rfl⟩
  rw [hA] at HA1 HLT ⊢
  have HWA := hid hA
  clear hA
  go_wp2_with fail
  refine (rd_read s w1).mono ?_
  rintro r w2 ⟨rfl, hr, hk⟩
  have HR2 := hid hr; have HK2 := hid hk
  clear hr hk
  generalize hb : w1.heap.size = b at *
  have HWB := hid hb
  clear hb
  go_wp2_with fail
  refine (HC1.out b w2 HR2.out).mono ?_
  rintro r w3 ⟨rfl, hr, hk⟩
  have HR3 := hid hr; have HK3 := hid hk
  clear hr hk
  obtain ⟨gd, hgd⟩ : ∃ gd, decide (m = 89) = gd := ⟨_, rfl⟩
  have g1 : ((m : Int) == 89) = gd := by rw [← hgd]; apply Bool.eq_iff_iff.2; rw [beq_iff_eq, decide_eq_true_iff]; omega
  have g2 : (m == 89) = gd := by rw [← hgd]; apply Bool.eq_iff_iff.2; rw [beq_iff_eq, decide_eq_true_iff]
  have HGD := hid hgd
  clear hgd
  go_wp2_with fail
  refine (HC2.out b w3 HR3.out).mono ?_
  rintro r w4 ⟨rfl, hr, hk⟩
  have HR4 := hid hr; have HK4 := hid hk
  clear hr hk g1 g2
  go_wp2_with fail
  refine (HC3.out b w4 HR4.out).mono ?_
  rintro r w5 ⟨rfl, hr, hk⟩
  have HR5 := hid hr; have HK5 := hid hk
  clear hr hk
  have hwsg : wrap64 (sg : Int) = (sg : Int) := by have := HSG.out; unfold wrap64; omega
  obtain ⟨w6, hw6, hb6, hs6, hk6⟩ := box1 w5 #[.string nm, .int .i64 (sg : Int), .slice none 0 0, .int .u32 0, .int .u32 0, .slice none 0 0] 27
  have HK6 := hid hk6
  have HS6 := hid hb6
  have HZ6 := hid hs6
  clear hb6 hs6 hk6
  go_upto_region 4 with fail
  rw [← hw6]
  clear hw6 hwsg
  obtain ⟨S, hS⟩ : ∃ S, w5.heap.size = S := ⟨_, rfl⟩
  rw [hS] at HS6 HZ6 ⊢
  have HWS := hid hS
  clear hS
  go_wp2_with fail
  refine (HC4.out b w6 (HR5.out.keep0 HK6.out)).mono ?_
  rintro r w7 ⟨rfl, hr, hk⟩
  have HR7 := hid hr; have HK7 := hid hk
  clear hr hk
  have hwn : wrap64 (n : Int) = (n : Int) := by have := HN.out; unfold wrap64; omega
  go_wp2_with fail
  (try rw [hwn])
  clear hwn
  obtain ⟨i0, hi0, hz0, hz1, hz2⟩ := info_parts' info_strC
  obtain ⟨B1, hB1⟩ : ∃ B1, w6.heap.size = B1 := ⟨_, rfl⟩
  have HB1 := hid hB1
  have HSB : Hid (S < B1) := hid (by have := HZ6.out; omega)
  have HBS : Hid (b < S) := hid (by
    have h1 := lt_of_heap (w := w5) HR5.out
    have := HWS.out
    omega)
  have HAB : Hid (A < b) := hid (by have := HLT.out; have := HWB.out; omega)
  have HK67 : Hid (Keep (fun g => g = S ∨ g = b ∨ B1 ≤ g) w6 w7) := hid (HK7.out.mono (fun _ _ h => .inr (.inl h)))
  have HS7 : Hid (w7.heap[S]? = some (.cells #[.string nm, .int .i64 (sg : Int), .slice none 0 0, .int .u32 0, .int .u32 0, .slice none 0 0] 27 (0, 0))) := hid (HK7.out.get HS6.out (fun e => by have := HBS.out; omega))
  clear hB1
  go_loopw [8] (fun i wr => ∃ (k : Nat) (out : List ByteArray) (p : Option Addr) (c : Nat) (st : St), k ≤ n ∧ i = iV k ∧ out.length = k ∧ rdRow rdNm n st4 = (out ++ (rdRow rdNm (n - k) st).1, (rdRow rdNm (n - k) st).2) ∧
    wr.heap[S]? = some (.cells #[.string nm, .int .i64 (sg : Int), .slice p out.length c, .int .u32 0, .int .u32 0, .slice none 0 0] 27 (0, 0)) ∧ wr.ownsRow B1 9 1 (.slice p out.length c) out.length (out.map sV) ∧ RdS wr b st.1 st.2 ∧ Keep (fun g => g = S ∨ g = b ∨ B1 ≤ g) w6 wr ∧ st.1.size ≤ 9223372036854775807) (fun i _ => n + 1 - (intOf i).toNat)
  case atStart => exact ⟨0, [], none, 0, st4, by omega, rfl, rfl, by simp, HS7.out, World.ownsRow_nil _ _ _ _, HR7.out, HK67.out, HZ4.out⟩
  case round =>
    obtain ⟨k, out, p, c, st, hk, rfl, hol, hrow, hS, hown, hrd, hkr, hsz⟩ := hrel
    have HROW := hid hrow; have HS := hid hS; have HOWN := hid hown; have HRD := hid hrd; have HKR := hid hkr; have HSZ := hid hsz
    have HOL := hid hol
    clear hrow hS hown hrd hkr hsz hol
    have hn256 := HN.out
    go_upto_region 6 with fail
    go_cut [31] from 24 to 40 (fun u wx => u = .bool (decide (k < n) && !st.2) ∧ wr = wx)
    case first =>
      by_cases hkn : k < n
      · have g1 : decide ((k : Int) < (n : Int)) = true := decide_eq_true (by omega)
        have g2 : decide (k < n) = true := decide_eq_true hkn
        have G2 := hid g2
        obtain ⟨bad, hbad⟩ : ∃ x, st.2 = x := ⟨_, rfl⟩
        have HBAD := hid hbad
        go_wp2_with fail
        refine (rd_bad b st.1 st.2 _ HRD.out).mono ?_
        rw [hbad]
        rintro r w_ ⟨rfl, rfl⟩
        clear hbad
        cases bad
        · go_wp2
          go_meet
          case rel => exact ⟨by rw [G2.out, HBAD.out]; rfl, rfl⟩
        · go_wp2
          go_meet
          case rel => exact ⟨by rw [G2.out, HBAD.out]; rfl, rfl⟩
      · have g1 : decide ((k : Int) < (n : Int)) = false := decide_eq_false (by omega)
        have g2 : decide (k < n) = false := decide_eq_false hkn
        have G2 := hid g2
        go_wp2
        go_meet
        case rel => exact ⟨by rw [G2.out]; rfl, rfl⟩
    case rest =>
    obtain ⟨rfl, rfl⟩ := hcut
    by_cases hgo : k < n ∧ st.2 = false
    · have g2 : (decide (k < n) && !st.2) = true := by rw [decide_eq_true hgo.1, hgo.2]; rfl
      rw [g2]
      clear g2
      obtain ⟨⟨t, stn⟩, et⟩ : ∃ x, rdNm st = x := ⟨_, rfl⟩
      have HNEXT : Hid (rdRow rdNm n st4 = ((out ++ [t]) ++ (rdRow rdNm (n - (k + 1)) stn).1, (rdRow rdNm (n - (k + 1)) stn).2)) := hid (by
        rw [HROW.out, show n - k = (n - (k + 1)) + 1 by omega, rdRow_next rdNm _ hgo.2, et]
        simp)
      have hcnm := fun (wy : World) (h : RdS wy b st.1 st.2) => rd_nm b st wy HSZ.out h
      have hszn := rdNm_size st
      rw [et] at hcnm hszn
      have HCNM := hid hcnm
      have HSZN : Hid (stn.1.size ≤ 9223372036854775807) := hid (by have := HSZ.out; simp only at hszn; omega)
      have hkn := hgo.1
      have c2 : wr.drew.cell? ⟨S, 2, none⟩ = some (.slice p out.length c) := cell_of (w := wr.drew) HS.out (by rfl)
      clear et hcnm hszn hgo
      go_upto_region 8 with fail
      refine Plan.wp_region_pl [(false, 0, []), (false, 1, []), (false, 2, []), (true, 3, [1, 0]), (true, 4, [1, 0]), (true, 5, []), (false, 6, []), (true, 7, [])] (by as_aux_lemma => kernel_rfl) (by as_aux_lemma => kernel_rfl) ?_
      iterate 3 (refine Plan.pl_st rfl ?_; go_big_quiet_step (fail); refine wpQuiet_nil ?_)
      refine Plan.pl_ac rfl ?_
      go_wp2_with fail
      refine (HCNM.out wr.drew HRD.out).mono ?_
      rintro r wa ⟨rfl, hr, hk⟩
      have HRA := hid hr; have HKA := hid hk
      have HSA := hid (hk.get (w := wr.drew) HS.out (fun e => by have := HBS.out; omega))
      have HOA := hid (owns_keep (w' := wa) HOWN.out (fun j hj => hk.block j (HOWN.out.lt j hj).2 (fun e => by have := (HOWN.out.lt j hj).1; have := HBS.out; have := HSB.out; omega)))
      clear hr hk c2
      have c2 : wa.cell? ⟨S, 2, none⟩ = some (.slice p out.length c) := cell_of HSA.out (by rfl)
      go_wp2
      refine Plan.plQ_mk ?_ ?_
      · iterate 2 (refine Plan.chk_st rfl ?_ ?_; focus (go_big_quiet_step (fail); exact wpQuiet_nil rfl))
        exact Plan.chk_end
      obtain ⟨wb, hwb, hbb, hsb, hkb⟩ := box1 wa #[.string t] 9
      have HBB := hid hbb; have HKB := hid hkb
      have HSZB := hid hsb
      have HSB2 := hid (hkb.get HSA.out id)
      have HOB := hid (owns_keep (w' := wb) HOA.out (fun j hj => hkb.block j (HOA.out.lt j hj).2 id))
      clear hbb hsb hkb
      refine Plan.pl_ac rfl ?_
      go_wp2
      rw [← hwb]
      clear hwb c2
      have c2 : wb.cell? ⟨S, 2, none⟩ = some (.slice p out.length c) := cell_of HSB2.out (by rfl)
      refine Plan.plQ_mk ?_ ?_
      · iterate 2 (refine Plan.chk_st rfl ?_ ?_; focus (go_big_quiet_step (fail); exact wpQuiet_nil rfl))
        exact Plan.chk_end
      refine Plan.pl_ac rfl ?_
      refine wpList_append_rd rfl _ _ _ rfl B1 _ i0 _ 1 16 Tryd.underlying22 hi0 hz0 hz1 hz2 rfl (by decide) _ out.length _ (by rfl) HOB.out _ 1 [.string t] (by rfl) (rd_block HBB.out (by simp) (by simp [Value.oneCell'])) (by unfold maxLen; have := HOL.out; omega) (by have := HOL.out; omega) (by have := HKR.out.size; have := HB1.out; have := HKA.out.size; have := HKB.out.size; simp at *; omega) ?_
      intro v' w5' hown5 hgrow5 hat5 hn5
      obtain ⟨vp, vc, rfl⟩ := owns_val hown5
      have hSne : ∀ j, (Value.slice p out.length c).ownBlock = some j → j ≠ S := fun j hj e => by have := (HOB.out.lt j hj).1; have := HSB.out; omega
      have hS5 : w5'.heap[S]? = some (.cells #[.string nm, .int .i64 (sg : Int), .slice p out.length c, .int .u32 0, .int .u32 0, .slice none 0 0] 27 (0, 0)) := (hgrow5.block S (lt_of_heap HSB2.out) (fun e => hSne S e.symm rfl)).trans HSB2.out
      have hvne : ∀ j, (Value.slice vp (out.length + 1) vc).ownBlock = some j → j ≠ S := fun j hj e => by have := (hown5.lt j hj).1; have := HSB.out; omega
      have c2 : w5'.cell? ⟨S, 2, none⟩ = some (.slice p out.length c) := cell_of hS5 (by rfl)
      have f2 : w5'.frozen? ⟨S, 2, none⟩ = false := free_of hS5 2
      have HR5' : Hid (RdS (w5'.setCell ⟨S, 2, none⟩ (.slice vp (out.length + 1) vc)) b stn.1 stn.2) := hid (by
        have h1 : wb.heap[b]? = _ := HKB.out.get HRA.out id
        have h2 : w5'.heap[b]? = _ := (hgrow5.block b (lt_of_heap h1) (fun e => by have := (HOB.out.lt b e.symm).1; have := HSB.out; have := HBS.out; omega)).trans h1
        unfold RdS
        rw [hsc_ne _ (show b ≠ S by have := HBS.out; omega)]
        exact h2)
      have HS5' : Hid ((w5'.setCell ⟨S, 2, none⟩ (.slice vp (out.length + 1) vc)).heap[S]? = some (.cells #[.string nm, .int .i64 (sg : Int), .slice vp (out.length + 1) vc, .int .u32 0, .int .u32 0, .slice none 0 0] 27 (0, 0))) := hid (by simpa using hsc_same hS5 2 (.slice vp (out.length + 1) vc))
      have HO5' : Hid ((w5'.setCell ⟨S, 2, none⟩ (.slice vp (out.length + 1) vc)).ownsRow B1 9 1 (.slice vp (out.length + 1) vc) (out.length + 1) ((out ++ [t]).map sV)) := hid (by
        rw [List.map_append]
        exact owns_keep hown5 (fun g hg => hsc_ne _ (hvne g hg)))
      have HK5' : Hid (Keep (fun g => g = S ∨ g = b ∨ B1 ≤ g) w6 (w5'.setCell ⟨S, 2, none⟩ (.slice vp (out.length + 1) vc))) := hid (by
        refine Keep.setCell (Keep.grown (((HKR.out.drew).trans (HKA.out.mono (fun _ _ h => .inr (.inl h)))).trans (HKB.out.mono (fun _ _ h => h.elim))) hgrow5 (fun k hk => .inr (.inr (.inr (HOB.out.lt k hk).1)))) (p := ⟨S, 2, none⟩) (.inl rfl) _)
      clear hown5 hgrow5 hat5 hn5 hS5 hSne hvne
      go_wp2
      refine Plan.plQ_mk Plan.chk_end ?_
      iterate 1 (refine Plan.pl_st rfl ?_; go_big_quiet_step (fail); refine wpQuiet_nil ?_)
      refine Plan.pl_ac rfl ?_
      go_wp2
      refine Plan.plQ_mk Plan.chk_end ?_
      refine Plan.pl_end ?_
      clear c2 f2
      go_wp2
      go_roundw
      case rel => exact ⟨k + 1, out ++ [t], vp, vc, stn, by omega, by go_num, by rw [List.length_append, HOL.out]; rfl, HNEXT.out, by rw [List.length_append]; exact HS5'.out, by rw [List.length_append]; exact HO5'.out, HR5'.out, HK5'.out, HSZN.out⟩
      case measure => simp [intOf]; omega
    · have g2 : (decide (k < n) && !st.2) = false := by
        cases h : st.2
        · rw [h] at hgo; rw [decide_eq_false (by simpa using hgo)]; rfl
        · simp
      rw [g2]
      clear g2
      have HAF : Hid (af = out ∧ st5 = st) := hid (by
        have h1 := HE5.out
        rw [HROW.out] at h1
        have h2 : rdRow rdNm (n - k) st = ([], st) := by
          by_cases hb : st.2 = true
          · exact rdRow_bad _ _ hb
          · have : n - k = 0 := by simp at hb; simp [hb] at hgo; omega
            rw [this]; rfl
        rw [h2] at h1
        simp at h1
        exact ⟨h1.1.symm, h1.2.symm⟩)
      obtain ⟨haf, hst5⟩ := HAF.out
      subst haf; subst hst5
      have HC6 := hid (fun (wy : World) (h : RdS wy b st5.1 st5.2) => (HE6.out ▸ rd_num b st5 4 (by unfold WideOk; omega) wy HSZ.out h : Calls Tryd.prog 64 #[.pointer (some ⟨b, 0, none⟩), .int .i64 ((4 : Nat) : Int)] wy fun r w' => r = .returned (.int .u64 (((al, st6) : Nat × St).1 : Int)) ∧ RdS w' b ((al, st6) : Nat × St).2.1 ((al, st6) : Nat × St).2.2 ∧ Keep (fun g => g = b) wy w'))
      have hz6 : st6.1.size ≤ 9223372036854775807 := by have h1 := rdN_size 4 st5; rw [HE6.out] at h1; have := HSZ.out; simp only at h1; omega
      have HC7 := hid (fun (wy : World) (h : RdS wy b st6.1 st6.2) => (HE7.out ▸ rd_num b st6 4 (by unfold WideOk; omega) wy hz6 h : Calls Tryd.prog 64 #[.pointer (some ⟨b, 0, none⟩), .int .i64 ((4 : Nat) : Int)] wy fun r w' => r = .returned (.int .u64 (((no, st7) : Nat × St).1 : Int)) ∧ RdS w' b ((no, st7) : Nat × St).2.1 ((no, st7) : Nat × St).2.2 ∧ Keep (fun g => g = b) wy w'))
      have hz7 : st7.1.size ≤ 9223372036854775807 := by have h1 := rdN_size 4 st6; rw [HE7.out] at h1; simp only at h1; omega
      have HC8 := hid (fun (wy : World) (h : RdS wy b st7.1 st7.2) => (HE8.out ▸ rd_num b st7 1 (by unfold WideOk; omega) wy hz7 h : Calls Tryd.prog 64 #[.pointer (some ⟨b, 0, none⟩), .int .i64 ((1 : Nat) : Int)] wy fun r w' => r = .returned (.int .u64 (((cn, st8) : Nat × St).1 : Int)) ∧ RdS w' b ((cn, st8) : Nat × St).2.1 ((cn, st8) : Nat × St).2.2 ∧ Keep (fun g => g = b) wy w'))
      have HZ8 : Hid (st8.1.size ≤ 9223372036854775807) := hid (by have h1 := rdN_size 1 st7; rw [HE8.out] at h1; simp only at h1; omega)
      have hwal : IntKind.u32.wrap (al : Int) = (al : Int) := by have := HAL.out; simp [IntKind.wrap, IntKind.bits, IntKind.signed]; omega
      have hwno : IntKind.u32.wrap (no : Int) = (no : Int) := by have := HNO.out; simp [IntKind.wrap, IntKind.bits, IntKind.signed]; omega
      clear hz6 hz7 hgo
      go_wp2_with fail
      refine (HC6.out _ HRD.out).mono ?_
      rintro r wa ⟨rfl, hr, hk⟩
      have HRA := hid hr; have HKA := hid hk
      have HSA := hid (hk.get HS.out (fun e => by have := HBS.out; omega))
      have c3 : wa.cell? ⟨S, 3, none⟩ = some (.int .u32 0) := cell_of HSA.out (by rfl)
      have f3 : wa.frozen? ⟨S, 3, none⟩ = false := free_of HSA.out 3
      clear hr hk
      have HS9 : Hid ((wa.setCell ⟨S, 3, none⟩ (.int .u32 (al : Int))).heap[S]? = some (.cells #[.string nm, .int .i64 (sg : Int), .slice p af.length c, .int .u32 (al : Int), .int .u32 0, .slice none 0 0] 27 (0, 0))) := hid (by simpa using hsc_same HSA.out 3 (.int .u32 (al : Int)))
      have HR9 : Hid (RdS (wa.setCell ⟨S, 3, none⟩ (.int .u32 (al : Int))) b st6.1 st6.2) := hid (by unfold RdS; rw [hsc_ne _ (show b ≠ S by have := HBS.out; omega)]; exact HRA.out)
      have HK9 : Hid (Keep (fun g => g = S ∨ g = b) wr (wa.setCell ⟨S, 3, none⟩ (.int .u32 (al : Int)))) := hid (Keep.setCell (HKA.out.mono (fun _ _ h => .inr h)) (p := ⟨S, 3, none⟩) (.inl rfl) _)
      go_upto_region 10 with fail
      clear c3 f3 hwal
      generalize wa.setCell ⟨S, 3, none⟩ (.int .u32 (al : Int)) = wb at *
      go_wp2_with fail
      refine (HC7.out _ HR9.out).mono ?_
      rintro r wc ⟨rfl, hr, hk⟩
      have HRC := hid hr; have HKC := hid hk
      have HSC := hid (hk.get HS9.out (fun e => by have := HBS.out; omega))
      have c4 : wc.cell? ⟨S, 4, none⟩ = some (.int .u32 0) := cell_of HSC.out (by rfl)
      have f4 : wc.frozen? ⟨S, 4, none⟩ = false := free_of HSC.out 4
      clear hr hk
      have HS10 : Hid ((wc.setCell ⟨S, 4, none⟩ (.int .u32 (no : Int))).heap[S]? = some (.cells #[.string nm, .int .i64 (sg : Int), .slice p af.length c, .int .u32 (al : Int), .int .u32 (no : Int), .slice none 0 0] 27 (0, 0))) := hid (by simpa using hsc_same HSC.out 4 (.int .u32 (no : Int)))
      have HR10 : Hid (RdS (wc.setCell ⟨S, 4, none⟩ (.int .u32 (no : Int))) b st7.1 st7.2) := hid (by unfold RdS; rw [hsc_ne _ (show b ≠ S by have := HBS.out; omega)]; exact HRC.out)
      have HK10 : Hid (Keep (fun g => g = S ∨ g = b) wr (wc.setCell ⟨S, 4, none⟩ (.int .u32 (no : Int)))) := hid (Keep.setCell (HK9.out.trans (HKC.out.mono (fun _ _ h => .inr h))) (p := ⟨S, 4, none⟩) (.inl rfl) _)
      go_upto_region 11 with fail
      clear c4 f4 hwno
      generalize wc.setCell ⟨S, 4, none⟩ (.int .u32 (no : Int)) = wd at *
      have hwcn : wrap64 (cn : Int) = (cn : Int) := by have := HCN.out; unfold wrap64; omega
      go_wp2_with fail
      refine (HC8.out _ HR10.out).mono ?_
      rintro r we ⟨rfl, hr, hk⟩
      have HRE := hid hr
      have HSE := hid (hk.get HS10.out (fun e => by have := HBS.out; omega))
      have HKE := hid (HK10.out.trans (hk.mono (fun _ _ h => .inr h)))
      have HOE := hid (owns_keep (w' := we) HOWN.out (fun j hj => HKE.out.block j (HOWN.out.lt j hj).2 (fun e => by have := (HOWN.out.lt j hj).1; have := HBS.out; have := HSB.out; omega)))
      have HKWE := hid (HKR.out.trans (HKE.out.mono (fun _ _ h => by rcases h with h | h; exact .inl h; exact .inr (.inl h))))
      clear hr hk
      go_wp2_with fail
      (try rw [hwcn])
      clear hwcn
      obtain ⟨i1, hi1, hy0, hy1, hy2⟩ := info_parts' info_opC
      obtain ⟨B2, hB2⟩ : ∃ B2, we.heap.size = B2 := ⟨_, rfl⟩
      have HB2 := hid hB2
      have HBB : Hid (B1 ≤ B2) := hid (by have := HKWE.out.size; have := HB1.out; omega)
      clear hB2
      go_loopw [9] (fun i wr => ∃ (k : Nat) (out : List VOp) (p2 : Option Addr) (c2 : Nat) (st : St), k ≤ cn ∧ i = iV k ∧ out.length = k ∧ rdRow rdOp cn st8 = (out ++ (rdRow rdOp (cn - k) st).1, (rdRow rdOp (cn - k) st).2) ∧
        wr.heap[S]? = some (.cells #[.string nm, .int .i64 (sg : Int), .slice p af.length c, .int .u32 (al : Int), .int .u32 (no : Int), .slice p2 out.length c2] 27 (0, 0)) ∧ wr.ownsRow B2 50 5 (.slice p2 out.length c2) out.length (out.flatMap opc) ∧ RdS wr b st.1 st.2 ∧ Keep (fun g => g = S ∨ g = b ∨ B2 ≤ g) we wr ∧ st.1.size ≤ 9223372036854775807) (fun i _ => cn + 1 - (intOf i).toNat)
      case atStart => exact ⟨0, [], none, 0, st8, by omega, rfl, rfl, by simp, HSE.out, World.ownsRow_nil _ _ _ _, HRE.out, Keep.refl _ _, HZ8.out⟩
      case round =>
        clear HS HOWN HRD HKR HSZ HSA HRA HKA HS9 HR9 HK9 HSC HRC HKC HS10 HR10 HK10 HC6 HC7 HC8 HOL HROW HK67 HS7 HR7 HC1 HC2 HC3 HC4 HKE
        obtain ⟨k2, out, p2, c2, st, hk2, rfl, hol, hrow, hS, hown, hrd, hkr, hsz⟩ := hrel
        have HROW := hid hrow; have HS := hid hS; have HOWN := hid hown; have HRD := hid hrd; have HKR := hid hkr; have HSZ := hid hsz
        have HOL := hid hol
        clear hrow hS hown hrd hkr hsz hol
        have hc256 := HCN.out
        go_upto_region 13 with fail
        go_cut [59] from 52 to 82 (fun u wx => u = .bool (decide (k2 < cn) && !st.2) ∧ wr = wx)
        case first =>
          by_cases hkn : k2 < cn
          · have g1 : decide ((k2 : Int) < (cn : Int)) = true := decide_eq_true (by omega)
            have g2 : decide (k2 < cn) = true := decide_eq_true hkn
            have G2 := hid g2
            obtain ⟨bad, hbad⟩ : ∃ x, st.2 = x := ⟨_, rfl⟩
            have HBAD := hid hbad
            go_wp2_with fail
            refine (rd_bad b st.1 st.2 _ HRD.out).mono ?_
            rw [hbad]
            rintro r w_ ⟨rfl, rfl⟩
            clear hbad
            cases bad
            · go_wp2
              go_meet
              case rel => exact ⟨by rw [G2.out, HBAD.out]; rfl, rfl⟩
            · go_wp2
              go_meet
              case rel => exact ⟨by rw [G2.out, HBAD.out]; rfl, rfl⟩
          · have g1 : decide ((k2 : Int) < (cn : Int)) = false := decide_eq_false (by omega)
            have g2 : decide (k2 < cn) = false := decide_eq_false hkn
            have G2 := hid g2
            go_wp2
            go_meet
            case rel => exact ⟨by rw [G2.out]; rfl, rfl⟩
        case rest =>
        obtain ⟨rfl, rfl⟩ := hcut
        by_cases hgo : k2 < cn ∧ st.2 = false
        · have g2 : (decide (k2 < cn) && !st.2) = true := by rw [decide_eq_true hgo.1, hgo.2]; rfl
          rw [g2]
          clear g2
          obtain ⟨⟨n1, sa⟩, ea⟩ : ∃ x, rdN 1 st = x := ⟨_, rfl⟩
          obtain ⟨⟨n2, sb⟩, eb⟩ : ∃ x, rdN 1 sa = x := ⟨_, rfl⟩
          obtain ⟨⟨n3, sc⟩, ec⟩ : ∃ x, rdN 1 sb = x := ⟨_, rfl⟩
          obtain ⟨⟨n4, sd⟩, ed⟩ : ∃ x, rdN 1 sc = x := ⟨_, rfl⟩
          obtain ⟨⟨n5, se⟩, ee⟩ : ∃ x, rdN 8 sd = x := ⟨_, rfl⟩
          have HNEXT : Hid (rdRow rdOp cn st8 = ((out ++ [⟨(n1 : Int), (n2 : Int), (n3 : Int), (n4 : Int), wrap64 (n5 : Int)⟩]) ++ (rdRow rdOp (cn - (k2 + 1)) se).1, (rdRow rdOp (cn - (k2 + 1)) se).2)) := hid (by
            have he : rdOp st = (⟨(n1 : Int), (n2 : Int), (n3 : Int), (n4 : Int), wrap64 (n5 : Int)⟩, se) := by unfold rdOp; simp only [ea, eb, ec, ed, ee]
            rw [HROW.out, show cn - k2 = (cn - (k2 + 1)) + 1 by omega, rdRow_next rdOp _ hgo.2, he]
            simp)
          have z1 := rdN_size 1 st; rw [ea] at z1
          have z2 := rdN_size 1 sa; rw [eb] at z2
          have z3 := rdN_size 1 sb; rw [ec] at z3
          have z4 := rdN_size 1 sc; rw [ed] at z4
          have z5 := rdN_size 8 sd; rw [ee] at z5
          have l1 := rdN_lt 1 st; rw [ea] at l1
          have l2 := rdN_lt 1 sa; rw [eb] at l2
          have l3 := rdN_lt 1 sb; rw [ec] at l3
          have l4 := rdN_lt 1 sc; rw [ed] at l4
          have z0 := HSZ.out
          simp only at z0 z1 z2 z3 z4 z5
          have C1 := fun (wy : World) (h : RdS wy b st.1 st.2) => rd_num b st 1 (by unfold WideOk; omega) wy (by omega) h
          have C2 := fun (wy : World) (h : RdS wy b sa.1 sa.2) => rd_num b sa 1 (by unfold WideOk; omega) wy (by omega) h
          have C3 := fun (wy : World) (h : RdS wy b sb.1 sb.2) => rd_num b sb 1 (by unfold WideOk; omega) wy (by omega) h
          have C4 := fun (wy : World) (h : RdS wy b sc.1 sc.2) => rd_num b sc 1 (by unfold WideOk; omega) wy (by omega) h
          have C5 := fun (wy : World) (h : RdS wy b sd.1 sd.2) => rd_num b sd 8 (by unfold WideOk; omega) wy (by omega) h
          rw [ea] at C1; rw [eb] at C2; rw [ec] at C3; rw [ed] at C4; rw [ee] at C5
          have D1 := hid C1; have D2 := hid C2; have D3 := hid C3; have D4 := hid C4; have D5 := hid C5
          have HZE : Hid (se.1.size ≤ 9223372036854775807) := hid (by omega)
          have hw1 : wrap64 (n1 : Int) = (n1 : Int) := by simp only at l1; unfold wrap64; omega
          have hw2 : wrap64 (n2 : Int) = (n2 : Int) := by simp only at l2; unfold wrap64; omega
          have hw3 : wrap64 (n3 : Int) = (n3 : Int) := by simp only at l3; unfold wrap64; omega
          have hw4 : wrap64 (n4 : Int) = (n4 : Int) := by simp only at l4; unfold wrap64; omega
          have HW := hid (And.intro hw1 (And.intro hw2 (And.intro hw3 hw4)))
          have hkn := hgo.1
          clear z0 z1 z2 z3 z4 z5 l1 l2 l3 l4 C1 C2 C3 C4 C5 ea eb ec ed ee hgo hw1 hw2 hw3 hw4
          have d5 : wr.drew.cell? ⟨S, 5, none⟩ = some (.slice p2 out.length c2) := cell_of (w := wr.drew) HS.out (by rfl)
          go_upto_region 15 with fail
          refine Plan.wp_region_pl [(false, 0, []), (false, 1, []), (false, 2, []), (false, 5, []), (false, 8, []), (false, 11, []), (false, 14, []), (true, 3, [14, 11, 8, 5, 1, 0]), (false, 4, []), (true, 6, [4, 14, 11, 8, 1, 0]), (false, 7, []), (true, 9, [7, 4, 14, 11, 1, 0]), (false, 10, []), (true, 12, [10, 7, 4, 14, 1, 0]), (false, 13, []), (true, 15, [13, 10, 7, 4, 1, 0]), (false, 16, []), (false, 17, []), (true, 18, [1, 0]), (true, 19, []), (false, 20, []), (true, 21, [])] (by as_aux_lemma => kernel_rfl) (by as_aux_lemma => kernel_rfl) ?_
          iterate 7 (refine Plan.pl_st rfl ?_; go_big_quiet_step (fail); refine wpQuiet_nil ?_)
          refine Plan.pl_ac rfl ?_
          go_wp2_with fail
          refine (D1.out wr.drew HRD.out).mono ?_
          rintro r wa ⟨rfl, hr, hk⟩
          have HRA := hid hr; have HKA := hid hk
          have HSA := hid (hk.get (w := wr.drew) HS.out (fun e => by have := HBS.out; omega))
          clear hr hk d5
          have d5 : wa.cell? ⟨S, 5, none⟩ = some (.slice p2 out.length c2) := cell_of HSA.out (by rfl)
          go_wp2
          refine Plan.plQ_mk ?_ ?_
          · iterate 6 (refine Plan.chk_st rfl ?_ ?_; focus (go_big_quiet_step (fail); exact wpQuiet_nil rfl))
            exact Plan.chk_end
          iterate 1 (refine Plan.pl_st rfl ?_; go_big_quiet_step (fail); refine wpQuiet_nil ?_)
          refine Plan.pl_ac rfl ?_
          go_wp2_with fail
          refine (D2.out wa HRA.out).mono ?_
          rintro r wb ⟨rfl, hr, hk⟩
          have HRB := hid hr; have HKB := hid (HKA.out.trans hk)
          have HSB2 := hid (hk.get HSA.out (fun e => by have := HBS.out; omega))
          clear hr hk d5
          have d5 : wb.cell? ⟨S, 5, none⟩ = some (.slice p2 out.length c2) := cell_of HSB2.out (by rfl)
          go_wp2
          refine Plan.plQ_mk ?_ ?_
          · iterate 6 (refine Plan.chk_st rfl ?_ ?_; focus (go_big_quiet_step (fail); exact wpQuiet_nil rfl))
            exact Plan.chk_end
          iterate 1 (refine Plan.pl_st rfl ?_; go_big_quiet_step (fail); refine wpQuiet_nil ?_)
          refine Plan.pl_ac rfl ?_
          go_wp2_with fail
          refine (D3.out wb HRB.out).mono ?_
          rintro r wc ⟨rfl, hr, hk⟩
          have HRC := hid hr; have HKC := hid (HKB.out.trans hk)
          have HSC := hid (hk.get HSB2.out (fun e => by have := HBS.out; omega))
          clear hr hk d5
          have d5 : wc.cell? ⟨S, 5, none⟩ = some (.slice p2 out.length c2) := cell_of HSC.out (by rfl)
          go_wp2
          refine Plan.plQ_mk ?_ ?_
          · iterate 6 (refine Plan.chk_st rfl ?_ ?_; focus (go_big_quiet_step (fail); exact wpQuiet_nil rfl))
            exact Plan.chk_end
          iterate 1 (refine Plan.pl_st rfl ?_; go_big_quiet_step (fail); refine wpQuiet_nil ?_)
          refine Plan.pl_ac rfl ?_
          go_wp2_with fail
          refine (D4.out wc HRC.out).mono ?_
          rintro r wd ⟨rfl, hr, hk⟩
          have HRD4 := hid hr; have HKD := hid (HKC.out.trans hk)
          have HSD := hid (hk.get HSC.out (fun e => by have := HBS.out; omega))
          clear hr hk d5
          have d5 : wd.cell? ⟨S, 5, none⟩ = some (.slice p2 out.length c2) := cell_of HSD.out (by rfl)
          go_wp2
          refine Plan.plQ_mk ?_ ?_
          · iterate 6 (refine Plan.chk_st rfl ?_ ?_; focus (go_big_quiet_step (fail); exact wpQuiet_nil rfl))
            exact Plan.chk_end
          iterate 1 (refine Plan.pl_st rfl ?_; go_big_quiet_step (fail); refine wpQuiet_nil ?_)
          refine Plan.pl_ac rfl ?_
          go_wp2_with fail
          refine (D5.out wd HRD4.out).mono ?_
          rintro r wf ⟨rfl, hr, hk⟩
          have HRF := hid hr; have HKF := hid (HKD.out.trans hk)
          have HSF := hid (hk.get HSD.out (fun e => by have := HBS.out; omega))
          clear hr hk d5
          have d5 : wf.cell? ⟨S, 5, none⟩ = some (.slice p2 out.length c2) := cell_of HSF.out (by rfl)
          go_wp2
          refine Plan.plQ_mk ?_ ?_
          · iterate 6 (refine Plan.chk_st rfl ?_ ?_; focus (go_big_quiet_step (fail); exact wpQuiet_nil rfl))
            exact Plan.chk_end
          iterate 2 (refine Plan.pl_st rfl ?_; go_big_quiet_step (fail); refine wpQuiet_nil ?_)
          obtain ⟨wg, hwg, hbg, hsg2, hkg⟩ := box1 wf #[.int .i64 (wrap64 (n1 : Int)), .int .i64 (wrap64 (n2 : Int)), .int .i64 (wrap64 (n3 : Int)), .int .i64 (wrap64 (n4 : Int)), .int .i64 (wrap64 (n5 : Int))] 50
          have HBG : Hid (wg.heap[wf.heap.size]? = some (.cells (opc ⟨(n1 : Int), (n2 : Int), (n3 : Int), (n4 : Int), wrap64 (n5 : Int)⟩).toArray 50 (0, 0))) := hid (by
            obtain ⟨h1, h2, h3, h4⟩ := HW.out
            rw [hbg, h1, h2, h3, h4]; rfl)
          have HKG := hid hkg
          have HSG2 := hid (hkg.get HSF.out id)
          have HOF := hid (owns_keep (w' := wf) HOWN.out (fun j hj => HKF.out.block j (HOWN.out.lt j hj).2 (fun e => by have := (HOWN.out.lt j hj).1; have := HBS.out; have := HSB.out; have := HBB.out; omega)))
          have HOG := hid (owns_keep (w' := wg) HOF.out (fun j hj => hkg.block j (HOF.out.lt j hj).2 id))
          clear hbg hsg2 hkg
          refine Plan.pl_ac rfl ?_
          go_wp2
          rw [← hwg]
          clear hwg d5
          have d5 : wg.cell? ⟨S, 5, none⟩ = some (.slice p2 out.length c2) := cell_of HSG2.out (by rfl)
          refine Plan.plQ_mk ?_ ?_
          · iterate 2 (refine Plan.chk_st rfl ?_ ?_; focus (go_big_quiet_step (fail); exact wpQuiet_nil rfl))
            exact Plan.chk_end
          refine Plan.pl_ac rfl ?_
          refine wpList_append_rd rfl _ _ _ rfl B2 _ i1 _ 5 40 Tryd.underlying25 hi1 hy0 hy1 hy2 rfl (by decide) _ out.length _ (by rfl) HOG.out _ 1 (opc ⟨(n1 : Int), (n2 : Int), (n3 : Int), (n4 : Int), wrap64 (n5 : Int)⟩) (by rfl) (rd_block HBG.out (by simp [opc]) (by simp [opc, Value.oneCell'])) (by unfold maxLen; have := HOL.out; omega) (by have := HOL.out; omega) (by have h1 := HKR.out.size; have h2 := HB2.out; have h3 := HKF.out.size; have h4 := HKG.out.size; have h5 : wr.drew.heap.size = wr.heap.size := rfl; omega) ?_
          intro v' w5' hown5 hgrow5 hat5 hn5
          obtain ⟨vp, vc, rfl⟩ := owns_val hown5
          have hSne : ∀ j, (Value.slice p2 out.length c2).ownBlock = some j → j ≠ S := fun j hj e => by have := (HOG.out.lt j hj).1; have := HSB.out; have := HBB.out; omega
          have hS5 : w5'.heap[S]? = some (.cells #[.string nm, .int .i64 (sg : Int), .slice p af.length c, .int .u32 (al : Int), .int .u32 (no : Int), .slice p2 out.length c2] 27 (0, 0)) := (hgrow5.block S (lt_of_heap HSG2.out) (fun e => hSne S e.symm rfl)).trans HSG2.out
          have hvne : ∀ j, (Value.slice vp (out.length + 1) vc).ownBlock = some j → j ≠ S := fun j hj e => by have := (hown5.lt j hj).1; have := HSB.out; have := HBB.out; omega
          have d5' : w5'.cell? ⟨S, 5, none⟩ = some (.slice p2 out.length c2) := cell_of hS5 (by rfl)
          have f5' : w5'.frozen? ⟨S, 5, none⟩ = false := free_of hS5 5
          have HR5' : Hid (RdS (w5'.setCell ⟨S, 5, none⟩ (.slice vp (out.length + 1) vc)) b se.1 se.2) := hid (by
            have h1 : wg.heap[b]? = _ := HKG.out.get HRF.out id
            have h2 : w5'.heap[b]? = _ := (hgrow5.block b (lt_of_heap h1) (fun e => by have := (HOG.out.lt b e.symm).1; have := HSB.out; have := HBS.out; have := HBB.out; omega)).trans h1
            unfold RdS
            rw [hsc_ne _ (show b ≠ S by have := HBS.out; omega)]
            exact h2)
          have HS5' : Hid ((w5'.setCell ⟨S, 5, none⟩ (.slice vp (out.length + 1) vc)).heap[S]? = some (.cells #[.string nm, .int .i64 (sg : Int), .slice p af.length c, .int .u32 (al : Int), .int .u32 (no : Int), .slice vp (out.length + 1) vc] 27 (0, 0))) := hid (by simpa using hsc_same hS5 5 (.slice vp (out.length + 1) vc))
          have HO5' : Hid ((w5'.setCell ⟨S, 5, none⟩ (.slice vp (out.length + 1) vc)).ownsRow B2 50 5 (.slice vp (out.length + 1) vc) (out.length + 1) ((out ++ [(⟨(n1 : Int), (n2 : Int), (n3 : Int), (n4 : Int), wrap64 (n5 : Int)⟩ : VOp)]).flatMap opc)) := hid (by
            rw [List.flatMap_append]
            simpa using owns_keep hown5 (fun g hg => hsc_ne _ (hvne g hg)))
          have HK5' : Hid (Keep (fun g => g = S ∨ g = b ∨ B2 ≤ g) we (w5'.setCell ⟨S, 5, none⟩ (.slice vp (out.length + 1) vc))) := hid (by
            refine Keep.setCell (Keep.grown (((HKR.out.drew).trans (HKF.out.mono (fun _ _ h => .inr (.inl h)))).trans (HKG.out.mono (fun _ _ h => h.elim))) hgrow5 (fun k hk => .inr (.inr (.inr (HOG.out.lt k hk).1)))) (p := ⟨S, 5, none⟩) (.inl rfl) _)
          clear hown5 hgrow5 hat5 hn5 hS5 hSne hvne
          go_wp2
          refine Plan.plQ_mk Plan.chk_end ?_
          iterate 1 (refine Plan.pl_st rfl ?_; go_big_quiet_step (fail); refine wpQuiet_nil ?_)
          refine Plan.pl_ac rfl ?_
          go_wp2
          refine Plan.plQ_mk Plan.chk_end ?_
          refine Plan.pl_end ?_
          clear d5' f5' d5
          go_wp2
          go_roundw
          case rel => exact ⟨k2 + 1, out ++ [⟨(n1 : Int), (n2 : Int), (n3 : Int), (n4 : Int), wrap64 (n5 : Int)⟩], vp, vc, se, by omega, by go_num, by rw [List.length_append, HOL.out]; rfl, HNEXT.out, by rw [List.length_append]; exact HS5'.out, by rw [List.length_append]; exact HO5'.out, HR5'.out, HK5'.out, HZE.out⟩
          case measure => simp [intOf]; omega
        · have g2 : (decide (k2 < cn) && !st.2) = false := by
            cases h : st.2
            · rw [h] at hgo; rw [decide_eq_false (by simpa using hgo)]; rfl
            · simp
          rw [g2]
          clear g2
          have HCD : Hid (cd = out ∧ st9 = st) := hid (by
            have h1 := HE9.out
            rw [HROW.out] at h1
            have h2 : rdRow rdOp (cn - k2) st = ([], st) := by
              by_cases hb : st.2 = true
              · exact rdRow_bad _ _ hb
              · have : cn - k2 = 0 := by simp at hb; simp [hb] at hgo; omega
                rw [this]; rfl
            rw [h2] at h1
            simp at h1
            exact ⟨h1.1.symm, h1.2.symm⟩)
          obtain ⟨hcd, hst9⟩ := HCD.out
          subst hcd; subst hst9
          have HAW : Hid (wr.heap[A]? = some (.cells #[.string ⟨#[]⟩, .int .i64 0, .slice none 0 0, .int .u32 0, .int .u32 0, .slice none 0 0] 27 (0, 0))) := hid (by
            have h1 := HAB.out; have h2 := HBS.out; have h3 := HSB.out; have h4 := HBB.out
            refine HKR.out.get (HKWE.out.get (HK6.out.get (HK5.out.get (HK4.out.get (HK3.out.get (HK2.out.get HA1.out id) ?_) ?_) ?_) id) ?_) ?_ <;> (intro e; omega))
          have HKF : Hid (Keep (fun _ => False) w wr) := hid (by
            have h1 := HAB.out; have h2 := HBS.out; have h3 := HSB.out; have h4 := HBB.out; have h5 := HWA.out
            refine keep_new (keep_new ((keep_new (keep_new (keep_new (HK1.out.trans HK2.out) HK3.out ?_) HK4.out ?_) HK5.out ?_).trans HK6.out) HKWE.out ?_) HKR.out ?_ <;> (intro k e; omega))
          have HOA : Hid (wr.ownsRow B1 9 1 (.slice p af.length c) af.length (af.map sV)) := hid (owns_keep HOE.out (fun j hj => HKR.out.block j (HOE.out.lt j hj).2 (fun e => by
            have h1 := (HOE.out.lt j hj).1; have h2 := (HOE.out.lt j hj).2; have h3 := HBS.out; have h4 := HSB.out; have h5 := HB2.out
            omega)))
          obtain ⟨y, hy⟩ : ∃ y : VSys, (⟨nm, (sg : Int), af, al, no, cd⟩ : VSys) = y := ⟨_, rfl⟩
          have HCHK := hid (craft_check ⟨nm, (sg : Int), af, al, no, cd⟩ p c p2 c2 wr HAL.out HNO.out (owns_cap HOA.out) (tp_own HOA.out) (vp_ownC HOWN.out))
          have HGY : Hid (goodY s = (gd && ((!st9.2 && decide (st9.1.size = 0)) && decide (sysC ⟨nm, (sg : Int), af, al, no, cd⟩ = 0)))) := hid (by unfold goodY; rw [HP.out, ← HGD.out]; simp only [Bool.and_assoc])
          have HPY : Hid ((partsY s).y = ⟨nm, (sg : Int), af, al, no, cd⟩) := hid (by rw [HP.out])
          have d0 : wr.cell? ⟨A, 0, none⟩ = some (.string ⟨#[]⟩) := cell_of HAW.out (by rfl)
          have d1 : wr.cell? ⟨A, 1, none⟩ = some (.int .i64 0) := cell_of HAW.out (by rfl)
          have d2 : wr.cell? ⟨A, 2, none⟩ = some (.slice none 0 0) := cell_of HAW.out (by rfl)
          have d3 : wr.cell? ⟨A, 3, none⟩ = some (.int .u32 0) := cell_of HAW.out (by rfl)
          have d4 : wr.cell? ⟨A, 4, none⟩ = some (.int .u32 0) := cell_of HAW.out (by rfl)
          have d5 : wr.cell? ⟨A, 5, none⟩ = some (.slice none 0 0) := cell_of HAW.out (by rfl)
          have v0 := free_of HAW.out 0
          have v1 := free_of HAW.out 1
          have v2 := free_of HAW.out 2
          have v3 := free_of HAW.out 3
          have v4 := free_of HAW.out 4
          have v5 := free_of HAW.out 5
          have HZERO : Hid (goodY s = false → ∀ wy, Keep (fun _ => False) wr wy → DecP s w (Ending.returned (.tuple #[.agg #[.string ⟨#[]⟩, .int .i64 0, .slice none 0 0, .int .u32 0, .int .u32 0, .slice none 0 0], .int .i64 4])) (sy6 wy A (.string ⟨#[]⟩) (.int .i64 0) (.slice none 0 0) (.int .u32 0) (.int .u32 0) (.slice none 0 0))) := hid (fun hg wy hky => by
            have e1 : decY s = zeroY := by unfold decY; rw [hg]; rfl
            have e2 : decE s = 4 := by unfold decE; rw [hg]; rfl
            unfold DecP
            rw [e1, e2]
            exact ⟨none, 0, none, 0, rfl, Nat.le_refl _, .inl rfl, .inl rfl, keep_new (HKF.out.trans hky) (sy6_keep _ _ _ _ _ _ _ _) (fun k e => by have := HWA.out; omega)⟩)
          cases gd
          · have HGF : Hid (goodY s = false) := hid (by rw [HGY.out]; rfl)
            clear HCHK HGY HPY
            go_wp2
            (try simp only [Exit.inBlock, Exit.then])
            refine bodyPost_ret (results_ctc rfl _ rfl (load_sys (sy6_heap (.string ⟨#[]⟩) (.int .i64 0) (.slice none 0 0) (.int .u32 0) (.int .u32 0) (.slice none 0 0) HAW.out))) rfl ?_
            exact HZERO.out HGF.out wr (Keep.refl _ _)
          · obtain ⟨dn, hdn⟩ : ∃ dn, (!st9.2 && decide (st9.1.size = 0)) = dn := ⟨_, rfl⟩
            have HDN := hid hdn
            go_wp2_with fail
            refine (rd_done b st9.1 st9.2 _ HRD.out).mono ?_
            rw [hdn]
            rintro r w_ ⟨rfl, rfl⟩
            clear hdn
            cases dn
            · have HGF : Hid (goodY s = false) := hid (by rw [HGY.out, HDN.out]; rfl)
              clear HCHK HGY HPY
              go_wp2
              (try simp only [Exit.inBlock, Exit.then])
              refine bodyPost_ret (results_ctc rfl _ rfl (load_sys (sy6_heap (.string ⟨#[]⟩) (.int .i64 0) (.slice none 0 0) (.int .u32 0) (.int .u32 0) (.slice none 0 0) HAW.out))) rfl ?_
              exact HZERO.out HGF.out wr (Keep.refl _ _)
            · clear d0 d1 d2 d3 d4 d5 v0 v1 v2 v3 v4 v5
              have d0 := cell_of HS.out (i := 0) (by rfl)
              have d1 := cell_of HS.out (i := 1) (by rfl)
              have d2 := cell_of HS.out (i := 2) (by rfl)
              have d3 := cell_of HS.out (i := 3) (by rfl)
              have d4 := cell_of HS.out (i := 4) (by rfl)
              have d5 := cell_of HS.out (i := 5) (by rfl)
              obtain ⟨E, hE⟩ : ∃ E, sysC ⟨nm, (sg : Int), af, al, no, cd⟩ = E := ⟨_, rfl⟩
              rw [hE] at HCHK HGY
              clear hE
              go_wp2_with fail
              refine HCHK.out.mono ?_
              rintro r wq ⟨rfl, hkq⟩
              have HKQ := hid hkq
              have HSQ := hid (hkq.get HS.out id)
              have HAQ := hid (hkq.get HAW.out id)
              clear hkq d0 d1 d2 d3 d4 d5
              have a0 := cell_of HAQ.out (i := 0) (by rfl)
              have a1 := cell_of HAQ.out (i := 1) (by rfl)
              have a2 := cell_of HAQ.out (i := 2) (by rfl)
              have a3 := cell_of HAQ.out (i := 3) (by rfl)
              have a4 := cell_of HAQ.out (i := 4) (by rfl)
              have a5 := cell_of HAQ.out (i := 5) (by rfl)
              have v0 := free_of HAQ.out 0
              have v1 := free_of HAQ.out 1
              have v2 := free_of HAQ.out 2
              have v3 := free_of HAQ.out 3
              have v4 := free_of HAQ.out 4
              have v5 := free_of HAQ.out 5
              by_cases hE0 : E = 0
              rotate_left
              · have HGF : Hid (goodY s = false) := hid (by rw [HGY.out, HDN.out, decide_eq_false hE0]; rfl)
                have g1 : ((E : Int) != 0) = true := by rw [bne_iff_ne]; omega
                have g2 : (E != 0) = true := by rw [bne_iff_ne]; exact hE0
                clear HCHK HGY HPY hE0
                go_wp2
                (try simp only [Exit.inBlock, Exit.then])
                refine bodyPost_ret (results_ctc rfl _ rfl (load_sys (sy6_heap (.string ⟨#[]⟩) (.int .i64 0) (.slice none 0 0) (.int .u32 0) (.int .u32 0) (.slice none 0 0) HAQ.out))) rfl ?_
                exact HZERO.out HGF.out wq HKQ.out
              · have HGT : Hid (goodY s = true) := hid (by rw [HGY.out, HDN.out, decide_eq_true hE0]; rfl)
                have g1 : ((E : Int) != 0) = false := by rw [hE0]; rfl
                have g2 : (E != 0) = false := by rw [hE0]; rfl
                have d0 := cell_of HSQ.out (i := 0) (by rfl)
                have d1 := cell_of HSQ.out (i := 1) (by rfl)
                have d2 := cell_of HSQ.out (i := 2) (by rfl)
                have d3 := cell_of HSQ.out (i := 3) (by rfl)
                have d4 := cell_of HSQ.out (i := 4) (by rfl)
                have d5 := cell_of HSQ.out (i := 5) (by rfl)
                have HYY : Hid (decY s = ⟨nm, (sg : Int), af, al, no, cd⟩ ∧ decE s = 0) := hid ⟨by unfold decY; rw [if_pos HGT.out, HPY.out], by unfold decE; rw [if_pos HGT.out]⟩
                clear HCHK HGY HPY hE0 HZERO
                go_wp2
                (try simp only [Exit.inBlock, Exit.then])
                refine bodyPost_ret (results_ctc rfl _ rfl (load_sys (sy6_heap (.string nm) (.int .i64 (sg : Int)) (.slice p af.length c) (.int .u32 (al : Int)) (.int .u32 (no : Int)) (.slice p2 cd.length c2) HAQ.out))) rfl ?_
                have hkf := (HKQ.out.mono (T := fun k => k = A) (fun _ _ h => h.elim)).trans (sy6_keep wq A (.string nm) (.int .i64 (sg : Int)) (.slice p af.length c) (.int .u32 (al : Int)) (.int .u32 (no : Int)) (.slice p2 cd.length c2))
                have hoa := owns_keep HOA.out (fun j hj => hkf.block j (HOA.out.lt j hj).2 (fun e => by have := (HOA.out.lt j hj).1; have := HSB.out; have := HBS.out; have := HAB.out; omega))
                have hoc := owns_keep HOWN.out (fun j hj => hkf.block j (HOWN.out.lt j hj).2 (fun e => by have := (HOWN.out.lt j hj).1; have := HBB.out; have := HSB.out; have := HBS.out; have := HAB.out; omega))
                unfold DecP
                refine ⟨p, c, p2, c2, by rw [HYY.out.1, HYY.out.2]; rfl, by rw [HYY.out.1]; exact owns_cap HOA.out, by rw [HYY.out.1]; exact tp_own hoa, by rw [HYY.out.1]; exact vp_ownC hoc, keep_new (HKF.out.trans HKQ.out) (sy6_keep _ _ _ _ _ _ _ _) (fun k e => by have := HWA.out; omega)⟩
end Go.Proofs.YtbnhdmalkmcalaaDoor
