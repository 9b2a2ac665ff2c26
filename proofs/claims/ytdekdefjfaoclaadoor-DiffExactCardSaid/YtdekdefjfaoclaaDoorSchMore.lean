/- What is proved: what FieldNamed and Ids of the schema's layer answer. -/
import Derived.Test.YtdekdefjfaoclaaDoorSchFind2
namespace Go.Proofs.YtdekdefjfaoclaaDoor
open Go.RowKit Go.Proofs.Heap Go.Proofs.Sch

theorem results_tt {fn : Func} {p u : Tmp} (h : fn.results = #[.tmp p, .tmp u]) (tmps : Array Value) {P : Program} {w : World} : (results fn tmps).run P w = .ok (.tuple #[tmps.getD p undef, tmps.getD u undef]) w := by
  simp [results, h]

theorem fnamed_clo (f : Fld) (cb : Nat) (s : ByteArray) (w : World) (hc : w.cell? ⟨cb, 0, none⟩ = some (.string s)) :
    Calls Tryd.prog 50 #[.agg #[.string f.name, .int .i64 f.kind, .int .i64 f.count], .pointer (some ⟨cb, 0, none⟩)] w fun r w' => r = .returned (.bool (decide (f.name = s))) ∧ Keep (fun _ => False) w w' := by
  have hk := (Keep.refl (fun _ => False) w).alloc (.cells #[.string f.name, .int .i64 f.kind, .int .i64 f.count] 53)
  have HK := hid hk
  have hlt := World.block_lt_of_cell? w _ hc
  have hc2 := ((Low.keep0 hk).cell (o := 0) hlt).trans hc
  have hs := seq_dec f.name s
  clear hk
  go_enter Tryd.func50, Tryd.ntmps50
  go_wp2
  go_ret
  exact ⟨by first | rfl | (rw [← hs]; rfl), HK.out⟩

set_option maxRecDepth 20000 in
set_option maxHeartbeats 2000000 in
theorem idx_fields (s : ByteArray) (cb : Nat) (fs : List Fld) (p : Option Addr) (cap : Nat) (w : World) (hl : fs.length ≤ 4398046511104) (hf : FP w w.heap.size p fs) (hc : w.cell? ⟨cb, 0, none⟩ = some (.string s)) :
    Calls Tryd.prog 49 #[.slice p fs.length cap, .func (.func 50) #[] #[.pointer (some ⟨cb, 0, none⟩)]] w fun r w' => r = .returned (.int .i64 (idxI (fun f => decide (f.name = s)) fs)) ∧ Keep (fun _ => False) w w' := by
  have HF := hid hf
  have HQ : Hid (∀ (f : Fld) (wy : World), Keep (fun _ => False) w wy → Calls Tryd.prog 50 #[.agg #[.string f.name, .int .i64 f.kind, .int .i64 f.count], .pointer (some ⟨cb, 0, none⟩)] wy fun r w' => r = .returned (.bool ((fun f : Fld => decide (f.name = s)) f)) ∧ Keep (fun _ => False) wy w') :=
    hid (fun f wy hk => fnamed_clo f cb _ wy (((Low.keep0 hk).cell (o := 0) (World.block_lt_of_cell? w _ hc)).trans hc))
  obtain ⟨q, hqe⟩ : ∃ q : Fld → Bool, q = (fun f : Fld => decide (f.name = s)) := ⟨_, rfl⟩
  rw [← hqe] at HQ
  rw [← hqe]
  clear hf hc hqe
  go_enter Tryd.func49, Tryd.ntmps49
  go_wp2_with fail
  go_loopw [5, 8] (fun _ i wr => ∃ k : Nat, k ≤ fs.length ∧ i = iV k ∧ Keep (fun _ => False) w wr ∧ ∀ c ∈ fs.take k, q c = false) (fun _ i _ => fs.length + 1 - (intOf i).toNat)
  case atStart => exact ⟨0, by omega, rfl, Keep.refl _ _, by simp⟩
  case round =>
    obtain ⟨k, hk, rfl, hkeep, hall⟩ := hrel
    have HK := hid hkeep; have HA := hid hall
    clear hkeep hall
    by_cases hlt : k < fs.length
    · obtain ⟨c, hck⟩ : ∃ c, fs[k]? = some c := ⟨fs[k], by simp [hlt]⟩
      obtain ⟨b, off, rfl, hb, c0, c1, c2⟩ := FP.at (FP.low HF.out (Low.keep0 HK.out)) hck
      have hin : (0 : Int) ≤ (k : Int) ∧ (k : Int) < (fs.length : Int) := ⟨by omega, by omega⟩
      have HCK := hid hck
      clear hck
      go_wp2_with fail
      refine (HQ.out c _ HK.out).mono ?_
      rintro r w1 ⟨rfl, hk1⟩
      have HK1 := hid (HK.out.trans hk1)
      clear hk1
      cases hqc : q c
      · have HN : Hid (∀ d ∈ fs.take (k + 1), q d = false) := hid (fun d hd => by
          rw [take_next HCK.out] at hd
          rcases List.mem_append.1 hd with h | h
          · exact HA.out d h
          · rw [List.mem_singleton.1 h]; exact hqc)
        clear hqc
        go_wp2
        go_roundw
        case rel => exact ⟨k + 1, by omega, by go_num, HK1.out, HN.out⟩
        case measure => simp [intOf]; omega
      · have G3 := hid (idx_at HCK.out hqc HA.out)
        clear hqc
        go_wp2
        go_ret
        exact ⟨by rw [G3.out]; rfl, HK1.out⟩
    · obtain rfl : k = fs.length := by omega
      have G3 := hid (idx_none (q := q) (l := fs) (by have := HA.out; rwa [List.take_length] at this))
      go_wp2
      go_ret
      exact ⟨by rw [G3.out]; rfl, HK.out⟩

set_option maxRecDepth 20000 in
set_option maxHeartbeats 1000000 in
theorem field_named (c : Cmp) (s : ByteArray) (p : Option Addr) (cap : Nat) (w : World) (hl : c.fs.length ≤ 4398046511104) (hf : FP w w.heap.size p c.fs) :
    Calls Tryd.prog 45 #[.agg #[.int .i64 c.id, .string c.name, .slice p c.fs.length cap], .string s] w fun r w' =>
      ((idxI (fun f : Fld => decide (f.name = s)) c.fs = -1 ∧ r = .returned (.tuple #[.int .i64 0, .bool false])) ∨ (∃ k : Nat, idxI (fun f : Fld => decide (f.name = s)) c.fs = (k : Int) ∧ k < c.fs.length ∧ r = .returned (.tuple #[iV k, .bool true]))) ∧ Keep (fun _ => False) w w' := by
  have hk0 : Keep (fun _ => False) w ((w.alloc (.cells #[.int .i64 c.id, .string c.name, .slice p c.fs.length cap] 46)).alloc (.cells #[.string s] 9)) := ((Keep.refl (fun _ => False) w).alloc _).alloc _
  have hb1 : ((w.alloc (.cells #[.int .i64 c.id, .string c.name, .slice p c.fs.length cap] 46)).alloc (.cells #[.string s] 9)).heap[w.heap.size]? = some (.cells #[.int .i64 c.id, .string c.name, .slice p c.fs.length cap] 46 (0, 0)) := (((Keep.refl (fun _ => False) _).alloc _).get (heap_alloc_new w _) (fun h => h))
  have hb2 : ((w.alloc (.cells #[.int .i64 c.id, .string c.name, .slice p c.fs.length cap] 46)).alloc (.cells #[.string s] 9)).heap[w.heap.size + 1]? = some (.cells #[.string s] 9 (0, 0)) := by
    have := heap_alloc_new (w.alloc (.cells #[.int .i64 c.id, .string c.name, .slice p c.fs.length cap] 46)) (.cells #[.string s] 9)
    simpa using this
  have HF := hid (FP.mono (FP.low hf (Low.keep0 hk0)) hk0.size)
  have HK0 := hid hk0; have HB1 := hid hb1; have HB2 := hid hb2
  clear hf hb1 hb2 hk0
  go_enter Tryd.func45, Tryd.ntmps45
  go_upto_region 1 with fail
  generalize (w.alloc (.cells #[.int .i64 c.id, .string c.name, .slice p c.fs.length cap] 46)).alloc (.cells #[.string s] 9) = w0 at *
  generalize w.heap.size = sb at *
  have d1 : w0.cell? ⟨sb, 2, none⟩ = some (.slice p c.fs.length cap) := cell_of HB1.out (by rfl)
  have HC : Hid (w0.cell? ⟨sb + 1, 0, none⟩ = some (.string s)) := hid (cell_of HB2.out (by rfl))
  go_wp2_with fail
  refine (idx_fields s (sb + 1) c.fs p cap _ hl HF.out HC.out).mono ?_
  rintro r w1 ⟨rfl, hk1⟩
  have HK1 := hid (HK0.out.trans hk1)
  have HCS := hid (idx_cases (fun f : Fld => decide (f.name = s)) c.fs)
  clear hk1 d1
  generalize hz : idxI (fun f : Fld => decide (f.name = s)) c.fs = z at *
  have HZ := hid hz
  clear hz
  rcases HCS.out with h | ⟨k, x, h, _, _, hkl⟩
  · subst h
    go_wp2
    (try simp only [Exit.inBlock, Exit.then])
    refine bodyPost_ret (results_tt rfl _) rfl ?_
    exact ⟨.inl ⟨HZ.out, rfl⟩, HK1.out⟩
  · subst h
    have g1 : decide ((0 : Int) ≤ (k : Int)) = true := decide_eq_true (by omega)
    have g2 : decide ((0 : Int) < (k : Int)) = decide (0 < k) := by by_cases h : 0 < k <;> simp [h]
    go_wp2
    (try simp only [Exit.inBlock, Exit.then])
    refine bodyPost_ret (results_tt rfl _) rfl ?_
    exact ⟨.inr ⟨k, HZ.out, hkl, by first | rfl | simp⟩, HK1.out⟩

set_option maxRecDepth 20000 in
set_option maxHeartbeats 1000000 in
theorem sch_ids (v : Int) (cs : List Cmp) (p : Option Addr) (cap : Nat) (w : World) (hl1 : cs.length ≤ 2932031007402) (hf : CP w w.heap.size p cs) :
    Calls Tryd.prog 23 #[.agg #[.int .i64 v, .slice p cs.length cap]] w fun r w' => ∃ p' c', r = .returned (.slice p' cs.length c') ∧ w'.ownsRow w.heap.size 3 1 (.slice p' cs.length c') cs.length (cs.map (fun c => .int .i64 c.id)) ∧ Keep (fun _ => False) w w' := by
  obtain ⟨i0, hi0, hz0, hz1, hz2⟩ := info_parts' info_int
  have hb0 := heap_alloc_new w (.cells #[.int .i64 v, .slice p cs.length cap] 24)
  have hk0 := (Keep.refl (fun _ => False) w).alloc (.cells #[.int .i64 v, .slice p cs.length cap] 24)
  have HF := hid (CP.mono (CP.low hf (Low.keep0 hk0)) hk0.size)
  have HK0 := hid hk0; have HB0 := hid hb0
  clear hf hb0 hk0
  go_enter Tryd.func23, Tryd.ntmps23
  go_upto_region 1 with fail
  generalize w.alloc (.cells #[.int .i64 v, .slice p cs.length cap] 24) = w0 at *
  have HSB : Hid (w.heap.size < w0.heap.size) := hid (lt_of_heap HB0.out)
  generalize hsb : w.heap.size = sb at *
  have d1 : w0.cell? ⟨sb, 1, none⟩ = some (.slice p cs.length cap) := cell_of HB0.out (by rfl)
  go_wp2_with fail
  clear d1
  go_loopw [3, 5, 9] (fun av _ i wr => ∃ k : Nat, k ≤ cs.length ∧ i = iV k ∧ Keep (fun _ => False) w0 wr ∧ wr.ownsRow w0.heap.size 3 1 av k ((cs.take k).map (fun c => .int .i64 c.id))) (fun _ _ i _ => cs.length + 1 - (intOf i).toNat)
  case atStart => exact ⟨0, by omega, rfl, Keep.refl _ _, World.ownsRow_nil _ _ _ _⟩
  case round =>
    obtain ⟨k, hk, rfl, hkeep, hown⟩ := hrel
    have HK := hid hkeep; have HO := hid hown
    clear hkeep hown
    by_cases hlt : k < cs.length
    · obtain ⟨c, hck⟩ : ∃ c, cs[k]? = some c := ⟨cs[k], by simp [hlt]⟩
      obtain ⟨b, off, fq, fk, rfl, hb, c0, c1, c2, _, _⟩ := CP.at (CP.low HF.out (Low.keep0 HK.out)) hck
      have hin : (0 : Int) ≤ (k : Int) ∧ (k : Int) < (cs.length : Int) := ⟨by omega, by omega⟩
      have hk2 := (Keep.refl (fun _ => False) wr).alloc (.cells #[.int .i64 c.id, .string c.name, .slice fq c.fs.length fk] 46)
      have HK2 := hid (HK.out.trans hk2)
      have HO2 := hid (owns_keep HO.out (fun q hq => hk2.block q (HO.out.lt q hq).2 (fun h => h)))
      have hcb := heap_alloc_new wr (.cells #[.int .i64 c.id, .string c.name, .slice fq c.fs.length fk] 46)
      have HTK : Hid ((cs.take (k + 1)).map (fun c => Value.int .i64 c.id) = (cs.take k).map (fun c => Value.int .i64 c.id) ++ [.int .i64 c.id]) := hid (by rw [take_next hck, List.map_append]; rfl)
      have hs := HK2.out.size
      clear hck hk2
      generalize (cs.take k).map (fun c => Value.int .i64 c.id) = xs at *
      go_upto_region 5 with fail
      generalize wr.alloc (.cells #[.int .i64 c.id, .string c.name, .slice fq c.fs.length fk] 46) = wa at *
      have e0 := cell_of hcb (i := 0) (by rfl)
      clear hcb
      go_wp2_with (at_builtin; go_loud (refine wpList_append_rd rfl (.tmp 13) (.tmp 16) _ rfl w0.heap.size _ i0 _ 1 8 Tryd.underlying35 hi0 hz0 hz1 hz2 rfl (by decide) _ k _ (by rfl) (HO2.out.alloc _) _ 1 [.int .i64 c.id] (by rfl) (rd_block (heap_alloc_new wa _) (by simp) (by simp [Value.oneCell'])) (by unfold maxLen; omega) (by omega) (by simp; omega) ?_; intro v' w5 hown5 hgrow5 hat5 hn5; rw [← HTK.out] at hown5; have HO5 := hid hown5; have HK5 := hid ((HK2.out.alloc _).grown hgrow5 (fun k hk => .inl (HO2.out.lt k hk).1)); clear hown5 hgrow5 hat5 hn5))
      go_roundw
      case rel => exact ⟨k + 1, by omega, by go_num, HK5.out, HO5.out⟩
      case measure => simp [intOf]; omega
    · obtain rfl : k = cs.length := by omega
      rw [List.take_length] at HO
      obtain ⟨ap, ac, rfl⟩ := owns_val HO.out
      go_wp2
      go_ret
      exact ⟨ap, ac, rfl, owns_mono HO.out (by have := HSB.out; omega), HK0.out.trans HK.out⟩

end Go.Proofs.YtdekdefjfaoclaaDoor
