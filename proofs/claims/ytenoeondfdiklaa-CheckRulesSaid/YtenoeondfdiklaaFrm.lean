/- What is proved: how the document's rules lie in memory while they are made; no walk. -/
import Derived.Test.YtenoeondfdiklaaPln3
import Derived.Deep.Cut
import Derived.Deep.CutRange
import Derived.Deep.CutBlock
namespace Go.Proofs.Ytenoeondfdiklaa
open Go.RowKit Go.Proofs.Heap Go.Proofs.Sch Go.Proofs.Wide

/-- What is of an instruction, or of a row of formulas, of the document's stays. -/
def Stay2 (w w' : World) : Prop := ∀ (g : Nat) (c : Array Value) (t : TypeId), w.heap[g]? = some (.cells c t (0, 0)) → (t = 71 ∨ t = 52) → w'.heap[g]? = some (.cells c t (0, 0))
theorem Stay2.keep {w w' : World} (h : Keep (fun _ => False) w w') : Stay2 w w' := fun _ _ _ hx _ => h.get hx id
theorem Stay2.set (w : World) {g0 : Nat} {c0 : Array Value} {t0 : TypeId} (h0 : w.heap[g0]? = some (.cells c0 t0 (0, 0))) (h1 : t0 ≠ 71) (h2 : t0 ≠ 52) (i : Nat) (u : Value) : Stay2 w (w.setCell ⟨g0, i, none⟩ u) :=
  fun g c t hx ht => by
    rw [hsc_ne u (fun e => ?_)]
    · exact hx
    · subst e
      rw [hx] at h0
      injection h0 with h0
      injection h0 with _ h0
      subst h0
      rcases ht with e | e
      · exact h1 e
      · exact h2 e
theorem Stay2.grown {w w' : World} {row : Option Nat} (hg : w.grownBy w' row) (hr : ∀ k, row = some k → ∃ c t, w.heap[k]? = some (.cells c t (0, 0)) ∧ t ≠ 71 ∧ t ≠ 52) : Stay2 w w' :=
  fun g c t hx ht => (hg.block g (lt_of_heap hx) (fun e => by
    obtain ⟨c0, t0, h0, h1, h2⟩ := hr g e.symm
    rw [hx] at h0
    injection h0 with h0
    injection h0 with _ h0
    subst h0
    rcases ht with e | e
    · exact h1 e
    · exact h2 e)).trans hx
theorem own_stay {w w' : World} {base : Nat} {e : TypeId} {size : Nat} {v : Value} {n : Nat} {xs : List Value} (h : w.ownsRow base e size v n xs) (hs : Stay2 w w') (he : e = 71 ∨ e = 52) : w'.ownsRow base e size v n xs :=
  owns_keep h (fun g hg => by
    obtain ⟨c, hc⟩ := own_type h hg
    rw [hc]
    exact hs g c e hc he)

/-- A row of the document's formulas. -/
def Ex2 (w : World) (base : Nat) (es : List (List Ins)) (v : Value) : Prop :=
  ∃ xs : List Value, xs.length = es.length ∧ w.ownsRow base 52 1 v es.length xs ∧ ∀ (i : Nat) (x : List Ins) (y : Value), es[i]? = some x → xs[i]? = some y → w.ownsRow base 71 6 y x.length (x.flatMap icl)
theorem Ex2.nil (w : World) (base : Nat) : Ex2 w base [] (.slice none 0 0) := ⟨[], rfl, World.ownsRow_nil _ _ _ _, fun _ _ _ h => by simp at h⟩
theorem Ex2.stay {w w' : World} {base : Nat} {es : List (List Ins)} {v : Value} (h : Ex2 w base es v) (hs : Stay2 w w') : Ex2 w' base es v := by
  obtain ⟨xs, h1, h2, h3⟩ := h
  exact ⟨xs, h1, own_stay h2 hs (.inr rfl), fun i x y hx hy => own_stay (h3 i x y hx hy) hs (.inl rfl)⟩
theorem Ex2.keep0 {w w' : World} {base : Nat} {es : List (List Ins)} {v : Value} (h : Ex2 w base es v) (hk : Keep (fun _ => False) w w') : Ex2 w' base es v := h.stay (Stay2.keep hk)
theorem Ex2.val {w : World} {base : Nat} {es : List (List Ins)} {v : Value} (h : Ex2 w base es v) : ∃ p c, v = .slice p es.length c ∧ es.length ≤ c := by
  obtain ⟨bs, h1, h2, h3⟩ := h
  rcases owns_block h2 with ⟨rfl, h0, _⟩ | ⟨g', cap, cur, rfl, _, _, hc, _⟩
  · exact ⟨none, 0, by rw [h0], by omega⟩
  · exact ⟨_, _, rfl, hc⟩
theorem Ex2.low {w : World} {base b' : Nat} {es : List (List Ins)} {v : Value} (h : Ex2 w base es v) (hb : b' ≤ base) : Ex2 w b' es v := by
  obtain ⟨bs, h1, h2, h3⟩ := h
  exact ⟨bs, h1, owns_mono h2 hb, fun i x y hx hy => owns_mono (h3 i x y hx hy) hb⟩
theorem Ex2.ep {w : World} {base : Nat} {es : List (List Ins)} {p : Option Addr} {c : Nat} (h : Ex2 w base es (.slice p es.length c)) : EP w w.heap.size p es := by
  obtain ⟨xs, h1, h2, h3⟩ := h
  rcases Nat.eq_zero_or_pos es.length with h0 | h0
  · exact .inl (List.eq_nil_of_length_eq_zero h0)
  · obtain ⟨g, rfl⟩ := owns_some h2 h0
    refine .inr ⟨g, 0, rfl, (h2.lt g (by simp [Value.ownBlock])).2, fun i x hx => ?_⟩
    have hi := (List.getElem?_eq_some_iff.1 hx).1
    obtain ⟨y, hy⟩ : ∃ y, xs[i]? = some y := ⟨xs[i]'(by omega), by simp [show i < xs.length by omega]⟩
    have ho := h3 i x y hx hy
    obtain ⟨yp, yc, rfl⟩ := owns_val ho
    refine ⟨yp, yc, ?_, owns_room ho, ip_own rfl ho⟩
    rw [Nat.zero_add, Nat.mul_one, owns_cell h2 hi, hy]
theorem ex2_push {w w' : World} {base n : Nat} {es : List (List Ins)} {xs : List Value} {v v' y : Value} {x : List Ins} (hn : es.length = n) (h1 : xs.length = es.length) (h2 : w.ownsRow base 52 1 v n xs)
    (h3 : ∀ (i : Nat) (x : List Ins) (y : Value), es[i]? = some x → xs[i]? = some y → w.ownsRow base 71 6 y x.length (x.flatMap icl)) (hb : w.ownsRow base 71 6 y x.length (x.flatMap icl))
    (hg : w.grownBy w' v.ownBlock) (ho : w'.ownsRow base 52 1 v' (n + 1) (xs ++ [y])) : Ex2 w' base (es ++ [x]) v' := by
  subst hn
  have key : ∀ (y : Value) (x : List Ins), w.ownsRow base 71 6 y x.length (x.flatMap icl) → w'.ownsRow base 71 6 y x.length (x.flatMap icl) := fun y x h => owns_keep h (fun g hgo =>
    hg.block g (h.lt g hgo).2 (fun e => by
      obtain ⟨c, hc⟩ := own_type h2 e.symm
      obtain ⟨d, hd⟩ := own_type h hgo
      rw [hd] at hc
      injection hc with hc
      injection hc with _ hc
      revert hc
      decide))
  refine ⟨xs ++ [y], by simp [h1], by simpa using ho, fun i z d hz hd => ?_⟩
  by_cases hi : i < es.length
  · rw [List.getElem?_append_left hi] at hz
    rw [List.getElem?_append_left (by omega)] at hd
    exact key _ _ (h3 i z d hz hd)
  · rw [List.getElem?_append_right (by omega)] at hz
    rw [List.getElem?_append_right (by omega)] at hd
    have e0 : i - es.length = 0 := by have := (List.getElem?_eq_some_iff.1 hz).1; simpa using this
    rw [e0] at hz
    rw [h1, e0] at hd
    simp at hz hd
    subst hz; subst hd
    exact key _ _ hb
theorem Ex2.set {w : World} {base : Nat} {es : List (List Ins)} {v : Value} (h : Ex2 w base es v) {g0 : Nat} {c0 : Array Value} {t0 : TypeId} (h0 : w.heap[g0]? = some (.cells c0 t0 (0, 0))) (h1 : t0 ≠ 71) (h2 : t0 ≠ 52) (i : Nat) (u : Value) : Ex2 (w.setCell ⟨g0, i, none⟩ u) base es v :=
  h.stay (Stay2.set w h0 h1 h2 i u)
def _root_.Go.Proofs.Sch.Rul.pr (r : Rul) : PR := ⟨r.new, r.old, []⟩
/-- The row of the document's rules. -/
def Ru2 (w : World) (base : Nat) (rs : List Rul) (v : Value) : Prop :=
  ∃ vs : List Value, vs.length = rs.length ∧ w.ownsRow base 38 3 v rs.length (rcells (rs.map Rul.pr) vs) ∧ ∀ (i : Nat) (r : Rul) (x : Value), rs[i]? = some r → vs[i]? = some x → Ex2 w base r.exprs x
theorem Ru2.nil (w : World) (base : Nat) : Ru2 w base [] (.slice none 0 0) := ⟨[], rfl, World.ownsRow_nil _ _ _ _, fun _ _ _ h => by simp at h⟩
theorem Ru2.up {w : World} {base : Nat} {rs : List Rul} {p : Option Addr} {c : Nat} (h : Ru2 w base rs (.slice p rs.length c)) : UP w w.heap.size p rs := by
  obtain ⟨vs, h1, h2, h3⟩ := h
  rcases Nat.eq_zero_or_pos rs.length with h0 | h0
  · exact .inl (List.eq_nil_of_length_eq_zero h0)
  · obtain ⟨g, rfl⟩ := owns_some h2 h0
    refine .inr ⟨g, 0, rfl, (h2.lt g (by simp [Value.ownBlock])).2, fun i x hx => ?_⟩
    have hi := (List.getElem?_eq_some_iff.1 hx).1
    obtain ⟨v, hv⟩ : ∃ v, vs[i]? = some v := ⟨vs[i]'(by omega), by simp [show i < vs.length by omega]⟩
    have hex := h3 i x v hx hv
    obtain ⟨q, z, rfl, hz⟩ := hex.val
    have key : ∀ k u, (rucl x.pr (.slice q x.exprs.length z))[k]? = some u → w.cell? ⟨g, 0 + i * 3 + k, none⟩ = some u := fun k u hu => by
      have hk : k < 3 := by have := (List.getElem?_eq_some_iff.1 hu).1; simpa [rucl] using this
      have := h2.cells (g := g) rfl (i * 3 + k) u (by rw [rcells_at (rs.map Rul.pr) vs i k x.pr _ (by rw [List.length_map]; exact h1) (by rw [List.getElem?_map, hx]; rfl) hv hk]; exact hu)
      have hadd : (⟨g, 0, none⟩ : Addr).add (i * 3 + k) = ⟨g, i * 3 + k, none⟩ := by unfold Addr.add; split <;> simp_all
      rw [hadd] at this
      rw [Nat.zero_add]
      exact this
    exact ⟨key 0 _ rfl, key 1 _ rfl, q, z, key 2 _ rfl, hz, hex.ep⟩
theorem ru2_push {w w' : World} {base n : Nat} {rs : List Rul} {vs : List Value} {v v' xv : Value} {r : Rul} (hn : rs.length = n) (h1 : vs.length = rs.length) (h2 : w.ownsRow base 38 3 v n (rcells (rs.map Rul.pr) vs))
    (h3 : ∀ (i : Nat) (r : Rul) (x : Value), rs[i]? = some r → vs[i]? = some x → Ex2 w base r.exprs x) (hr : Ex2 w base r.exprs xv)
    (hg : w.grownBy w' v.ownBlock) (ho : w'.ownsRow base 38 3 v' (n + 1) (rcells (rs.map Rul.pr) vs ++ [.int .i64 r.new, .int .i64 r.old, xv])) : Ru2 w' base (rs ++ [r]) v' := by
  subst hn
  have hst : Stay2 w w' := Stay2.grown hg (fun k hk => by
    obtain ⟨c, hc⟩ := own_type h2 hk
    exact ⟨c, _, hc, by decide, by decide⟩)
  refine ⟨vs ++ [xv], by simp [h1], ?_, fun i y d hy hd => ?_⟩
  · rw [List.map_append, List.map_singleton, rcells_snoc _ _ _ _ (by rw [List.length_map]; exact h1), List.length_append]
    exact ho
  by_cases hi : i < rs.length
  · rw [List.getElem?_append_left hi] at hy
    rw [List.getElem?_append_left (by omega)] at hd
    exact (h3 i y d hy hd).stay hst
  · rw [List.getElem?_append_right (by omega)] at hy
    rw [List.getElem?_append_right (by omega)] at hd
    have e0 : i - rs.length = 0 := by have := (List.getElem?_eq_some_iff.1 hy).1; simpa using this
    rw [e0] at hy
    rw [h1, e0] at hd
    simp at hy hd
    subst hy; subst hd
    exact hr.stay hst
theorem Ru2.set {w : World} {base : Nat} {rs : List Rul} {v : Value} (h : Ru2 w base rs v) {g0 : Nat} {c0 : Array Value} {t0 : TypeId} (h0 : w.heap[g0]? = some (.cells c0 t0 (0, 0))) (h1 : t0 ≠ 71) (h2 : t0 ≠ 52) (h3 : t0 ≠ 38) (i : Nat) (u : Value) : Ru2 (w.setCell ⟨g0, i, none⟩ u) base rs v := by
  obtain ⟨vs, k1, k2, k3⟩ := h
  refine ⟨vs, k1, owns_keep k2 (fun g hg => hsc_ne _ (fun e => ?_)), fun i r x hr hx => (k3 i r x hr hx).set h0 h1 h2 _ _⟩
  subst e
  obtain ⟨c, hc⟩ := own_type k2 hg
  rw [h0] at hc
  injection hc with hc
  injection hc with _ hc
  exact h3 hc
theorem Ru2.keep0 {w w' : World} {base : Nat} {rs : List Rul} {v : Value} (h : Ru2 w base rs v) (hk : Keep (fun _ => False) w w') : Ru2 w' base rs v := by
  obtain ⟨vs, k1, k2, k3⟩ := h
  exact ⟨vs, k1, owns_keep k2 (fun g hg => hk.block g (k2.lt g hg).2 id), fun i r x hr hx => (k3 i r x hr hx).keep0 hk⟩
theorem info_ins2 : (Try.prog.info? 71).map (fun i => (i.zero, i.size, i.bytes)) = some (some (.agg #[.int .i64 0, .int .i64 0, .int .i64 0, .bool false, .int .u64 0, .int .u64 0]), 6, 48) := by kernel_rfl
theorem info_sl2 : (Try.prog.info? 52).map (fun i => (i.zero, i.size, i.bytes)) = some (some (.slice none 0 0), 1, 24) := by kernel_rfl
theorem info_rul2 : (Try.prog.info? 38).map (fun i => (i.zero, i.size, i.bytes)) = some (some (.agg #[.int .i64 0, .int .i64 0, .slice none 0 0]), 3, 40) := by kernel_rfl
end Go.Proofs.Ytenoeondfdiklaa

namespace Go.Proofs.Ytenoeondfdiklaa
open Go.RowKit Go.Proofs.Heap Go.Proofs.Sch Go.Proofs.Wide

set_option maxRecDepth 20000 in
set_option maxHeartbeats 8000000 in
theorem law_ins (code : List Ins) (p : Option Addr) (cap : Nat) (w : World) (hl : code.length ≤ 65536) (hf : IP w w.heap.size p code) :
    Calls Try.prog 16 #[.slice p code.length cap] w fun r w' => ∃ v, r = .returned v ∧ w'.ownsRow w.heap.size 71 6 v code.length (code.flatMap icl) ∧ Keep (fun _ => False) w w' := by
  obtain ⟨i0, hi0, hz0, hz1, hz2⟩ := info_parts' info_ins2
  have HF := hid hf
  have HO0 : Hid ((w.alloc (.cells #[] 71)).ownsRow w.heap.size 71 6 (.slice (some ⟨w.heap.size, 0, none⟩) 0 0) 0 []) := hid (World.ownsRow_made w #[] 0 (Nat.le_refl _) (by unfold maxLen; omega) (by simp))
  have HK0 := hid ((Keep.refl (fun _ => False) w).alloc (.cells #[] 71))
  clear hf
  go_enter Try.func16, Try.ntmps16
  go_wp2_with fail
  go_loopw [3, 4] (fun v i wr => ∃ k : Nat, k ≤ code.length ∧ i = iV k ∧ wr.ownsRow w.heap.size 71 6 v k ((code.take k).flatMap icl) ∧ Keep (fun _ => False) w wr) (fun _ i _ => code.length + 1 - (intOf i).toNat)
  case atStart => exact ⟨0, Nat.zero_le _, rfl, HO0.out, HK0.out⟩
  case round =>
    obtain ⟨k, hk, rfl, how, hkr⟩ := hrel
    obtain ⟨vp, vc, rfl⟩ := owns_val how
    have HO := hid how; have HKR := hid hkr
    clear how hkr
    by_cases hlt : k < code.length
    · obtain ⟨x, hxk⟩ : ∃ x, code[k]? = some x := ⟨code[k], by simp [hlt]⟩
      have HT : Hid ((code.take (k + 1)).flatMap icl = (code.take k).flatMap icl ++ icl x) := hid (by rw [take_next hxk, List.flatMap_append]; simp)
      obtain ⟨b, off, rfl, hb, c0, c1, c2, c3, c4, c5⟩ := IP.at (IP.low HF.out (Low.keep0 HKR.out.drew)) hxk
      have hin : (0 : Int) ≤ (k : Int) ∧ (k : Int) < (code.length : Int) := ⟨by omega, by omega⟩
      clear hxk hb
      obtain ⟨op, xa, xb, ⟨kn, kh, kl⟩⟩ := x
      simp only at c0 c1 c2 c3 c4 c5
      go_upto_region 5 with fail
      refine Plan.wp_region_pl [(false, 0, []), (false, 1, []), (false, 2, []), (false, 3, []), (false, 4, []), (false, 5, []), (false, 6, []), (false, 7, []), (false, 8, []), (false, 9, []), (false, 10, []), (false, 11, []), (false, 12, []), (false, 13, []), (false, 14, []), (false, 15, []), (false, 16, []), (false, 17, []), (false, 18, []), (false, 19, []), (false, 20, []), (false, 21, []), (true, 22, [0]), (true, 23, []), (false, 24, [])] (by kernel_rfl) (by kernel_rfl) ?_
      iterate 22 (refine Plan.pl_st rfl ?_; go_big_quiet_step (fail); refine wpQuiet_nil ?_)
      refine Plan.pl_ac rfl ?_
      go_wp2
      refine Plan.plQ_mk ?_ ?_
      · iterate 1 (refine Plan.chk_st rfl ?_ ?_; focus (go_big_quiet_step (fail); exact wpQuiet_nil rfl))
        exact Plan.chk_end
      clear c0 c1 c2 c3 c4 c5
      refine Plan.pl_ac rfl ?_
      refine wpList_append_rd rfl _ _ _ rfl w.heap.size _ i0 _ 6 48 Try.underlying52 hi0 hz0 hz1 hz2 rfl (by decide) _ k _ (by rfl) (HO.out.drew.alloc _) _ 1 (icl ⟨op, xa, xb, ⟨kn, kh, kl⟩⟩) (by rfl) (rd_block (heap_alloc_new wr.drew _) (by simp [icl]) (by simp [icl, Value.oneCell'])) (by unfold maxLen; omega) (by omega) (by have := HKR.out.size; simp; omega) ?_
      intro v' w5 hown5 hgrow5 hat5 hn5
      obtain ⟨vq, vd, rfl⟩ := owns_val hown5
      have HO5 := hid hown5
      have HK5 := hid ((HKR.out.drew.alloc _).grown hgrow5 (fun k hk => .inl (HO.out.lt k hk).1))
      clear hown5 hgrow5 hat5 hn5
      go_wp2
      refine Plan.plQ_mk Plan.chk_end ?_
      iterate 1 (refine Plan.pl_st rfl ?_; go_big_quiet_step (fail); refine wpQuiet_nil ?_)
      refine Plan.pl_end ?_
      go_wp2
      go_roundw
      case rel => exact ⟨k + 1, by omega, by go_num, by rw [HT.out]; exact HO5.out, HK5.out⟩
      case measure => simp [intOf]; omega
    · obtain rfl : k = code.length := by omega
      have g0 : decide ((code.length : Int) < (code.length : Int)) = false := decide_eq_false (by omega)
      rw [List.take_length] at HO
      go_wp2
      go_ret
      exact ⟨_, rfl, HO.out, HKR.out⟩
end Go.Proofs.Ytenoeondfdiklaa

namespace Go.Proofs.Ytenoeondfdiklaa
open Go.RowKit Go.Proofs.Heap Go.Proofs.Sch Go.Proofs.Wide

set_option maxRecDepth 20000 in
set_option maxHeartbeats 16000000 in
theorem law_form (va vb : Int) (rs : List Rul) (q : Option Addr) (qc : Nat) (w : World) (hl : rs.length ≤ 65536) (hl2 : ∀ r ∈ rs, r.exprs.length ≤ 65536 ∧ ∀ e ∈ r.exprs, e.length ≤ 65536) (hc : UP w w.heap.size q rs) :
    Calls Try.prog 7 #[.agg #[.int .i64 va, .int .i64 vb, .slice q rs.length qc]] w
      fun e w' => ∃ rp rc, e = .returned (.agg #[.int .i64 va, .int .i64 vb, .slice rp rs.length rc]) ∧ UP w' w'.heap.size rp rs ∧ Keep (fun _ => False) w w' := by
  obtain ⟨i0, hi0, hz0, hz1, hz2⟩ := info_parts' info_sl2
  obtain ⟨j0, hj0, hy0, hy1, hy2⟩ := info_parts' info_rul2
  obtain ⟨w3, hw3, hb1, hb2, hb3, hs3, hk3⟩ := box3 w #[.int .i64 va, .int .i64 vb, .slice q rs.length qc] #[.int .i64 0, .int .i64 0, .slice none 0 0] #[.int .i64 va, .int .i64 vb, .slice none 0 0] 35 41 41
  have HL2 := hid hl2
  have HS3 := hid hs3
  have hlow : ∀ wy, Keep (fun g => g = w.heap.size + 1 + 1) w3 wy → Keep (fun _ => False) w wy := fun wy hk => hk3.trans' hk (fun i hi e => by omega)
  have HLOW := hid hlow
  have HD : Hid (∀ wy, Keep (fun g => g = w.heap.size + 1 + 1) w3 wy → UP wy wy.heap.size q rs) := hid (fun wy hk => UP.mono (UP.low hc (Low.keep0 (hlow wy hk))) (hlow wy hk).size)
  clear hc hk3 hl2 hlow
  go_enter Try.func7, Try.ntmps7
  go_upto_region 2 with fail
  rw [← hw3]
  clear hw3
  generalize hsb : w.heap.size = sb at *
  have HSB := hid hsb
  have HW : Hid (∀ wy, Keep (fun g => g = sb + 1 + 1) w3 wy → wy.cell? ⟨sb, 2, none⟩ = some (.slice q rs.length qc)) := hid (fun wy hk => cell_of (hk.get hb1 (by omega)) (by rfl))
  have HRES : Hid (∀ wy, Keep (fun g => g = sb + 1 + 1) w3 wy → wy.heap[sb + 1]? = some (.cells #[.int .i64 0, .int .i64 0, .slice none 0 0] 41 (0, 0))) := hid (fun wy hk => hk.get hb2 (by omega))
  have HQ4 := hid hb3
  clear hb1 hb2 hb3 hs3 hsb
  go_wp2_with fail
  go_loopw [4] (fun i wr => ∃ (k : Nat) (rp : Option Addr) (rc : Nat), k ≤ rs.length ∧ i = iV k ∧ wr.heap[sb + 1 + 1]? = some (.cells #[.int .i64 va, .int .i64 vb, .slice rp k rc] 41 (0, 0)) ∧ Ru2 wr w3.heap.size (rs.take k) (.slice rp k rc) ∧ Keep (fun g => g = sb + 1 + 1) w3 wr) (fun i _ => rs.length + 1 - (intOf i).toNat)
  case atStart => exact ⟨0, none, 0, Nat.zero_le _, rfl, HQ4.out, Ru2.nil _ _, Keep.refl _ _⟩
  case round =>
    generalize wr = wo at *
    obtain ⟨k, rp, rc, hk, rfl, hq, hru, hkr⟩ := hrel
    have HQ := hid hq; have HRU := hid hru; have HKR := hid hkr
    clear hq hru hkr
    have s2 := HW.out _ HKR.out
    by_cases hlt : k < rs.length
    · obtain ⟨u, huk⟩ : ∃ u, rs[k]? = some u := ⟨rs[k], by simp [hlt]⟩
      have HTK := hid (take_next huk)
      have hul := HL2.out u (List.mem_of_getElem? huk)
      obtain ⟨b, off, eq, ec, rfl, hb, c0, c1, c2, _, he⟩ := UP.at (HD.out _ HKR.out) huk
      have hin : (0 : Int) ≤ (k : Int) ∧ (k : Int) < (rs.length : Int) := ⟨by omega, by omega⟩
      obtain ⟨un, uo, us⟩ := u
      simp only at hul c0 c1 c2 he HTK
      have HUL := hid hul.2
      have hul1 := hul.1
      have HE : Hid (∀ wy, Keep (fun _ => False) wo wy → EP wy wy.heap.size eq us) := hid (fun wy hk => EP.mono (EP.low he (Low.keep0 hk)) hk.size)
      have HC2 : Hid (∀ wy, Keep (fun _ => False) wo wy → wy.cell? ⟨b, off + k * 3, none⟩ = some (.int .i64 un) ∧ wy.cell? ⟨b, off + k * 3 + 1, none⟩ = some (.int .i64 uo) ∧ wy.cell? ⟨b, off + k * 3 + 2, none⟩ = some (.slice eq us.length ec)) := hid (fun wy hk =>
        ⟨((Low.keep0 hk).cell hb).trans c0, ((Low.keep0 hk).cell hb).trans c1, ((Low.keep0 hk).cell hb).trans c2⟩)
      have HKQ : Hid (∀ wy, Keep (fun _ => False) wo wy → Keep (fun g => g = sb + 1 + 1) w3 wy) := hid (fun wy hk => HKR.out.trans' hk (fun i hi e => e.elim))
      clear huk hb he c0 c1 c2 hul s2
      obtain ⟨wa, hwa, hba, hsa, hka⟩ := box1 wo #[.int .i64 0, .int .i64 0, .slice none 0 0] 38
      have hkd := (Keep.refl (fun _ => False) wo).drew
      have hkda := hka.drew
      have s2d := HW.out _ (HKQ.out _ hkd)
      obtain ⟨d0, d1, d2⟩ := HC2.out _ hkd
      have HKA := hid hkda
      clear hsa hka hkd hkda
      have s2 := HW.out _ HKR.out
      go_upto_region 5 with fail
      clear s2
      refine Plan.wp_region_pl [(false, 0, []), (false, 1, []), (false, 2, []), (false, 3, []), (false, 4, []), (false, 5, []), (false, 6, []), (false, 7, []), (false, 8, []), (false, 9, []), (false, 10, []), (false, 11, []), (false, 12, []), (true, 13, [12, 11, 10, 9, 8, 7, 6, 5, 4, 3, 2, 1, 0]), (true, 14, [])] (by kernel_rfl) (by kernel_rfl) ?_
      iterate 13 (refine Plan.pl_st rfl ?_; go_big_quiet_step (fail); refine wpQuiet_nil ?_)
      clear s2d d0 d1 d2
      refine Plan.pl_ac rfl ?_
      go_wp2
      rw [← hwa]
      clear hwa
      generalize hrb : wo.heap.size = rb at *
      have HRBS := hid hrb
      clear hrb
      have HBA := hid hba
      have s2d := HW.out _ (HKQ.out _ HKA.out)
      obtain ⟨d0, d1, d2⟩ := HC2.out _ HKA.out
      refine Plan.plQ_mk ?_ ?_
      · iterate 13 (refine Plan.chk_st rfl ?_ ?_; focus (go_big_quiet_step (fail); exact wpQuiet_nil rfl))
        exact Plan.chk_end
      clear s2d d0 d1 d2
      obtain ⟨w6, hw6⟩ : ∃ w6, w6 = (((wa.setCell ⟨rb, 0, none⟩ (.int .i64 un)).setCell ⟨rb, 1, none⟩ (.int .i64 uo)).setCell ⟨rb, 2, none⟩ (.slice none 0 0)).drew := ⟨_, rfl⟩
      have HR6 : Hid (w6.heap[rb]? = some (.cells #[.int .i64 un, .int .i64 uo, .slice none 0 0] 38 (0, 0))) := hid (by rw [hw6]; exact hsc_same (hsc_same (hsc_same hba 0 _) 1 _) 2 _)
      have HK6 : Hid (Keep (fun _ => False) wo w6) := hid (by
        rw [hw6]
        have h1 : Keep (fun _ => False) wo wa := ⟨HKA.out.os, HKA.out.tape, HKA.out.output, HKA.out.size, HKA.out.block⟩
        have h2 := HRBS.out
        exact (((h1.setCell_new (p := ⟨rb, 0, none⟩) (by simp only; omega) _).setCell_new (p := ⟨rb, 1, none⟩) (by simp only; omega) _).setCell_new (p := ⟨rb, 2, none⟩) (by simp only; omega) _).drew)
      have z0 : wa.drew.cell? ⟨rb, 0, none⟩ = some (.int .i64 0) := cell_of hba (by rfl)
      have z1 : wa.drew.cell? ⟨rb, 1, none⟩ = some (.int .i64 0) := cell_of hba (by rfl)
      have z2 : wa.drew.cell? ⟨rb, 2, none⟩ = some (.slice none 0 0) := cell_of hba (by rfl)
      have f0 : wa.drew.frozen? ⟨rb, 0, none⟩ = false := free_of hba 0
      have f1 : (wa.setCell ⟨rb, 0, none⟩ (.int .i64 un)).drew.frozen? ⟨rb, 1, none⟩ = false := free_of (hsc_same hba 0 _) 1
      have y1 : (wa.setCell ⟨rb, 0, none⟩ (.int .i64 un)).drew.cell? ⟨rb, 1, none⟩ = some (.int .i64 0) := cell_of (hsc_same hba 0 _) (by rfl)
      have f2 : ((wa.setCell ⟨rb, 0, none⟩ (.int .i64 un)).setCell ⟨rb, 1, none⟩ (.int .i64 uo)).drew.frozen? ⟨rb, 2, none⟩ = false := free_of (hsc_same (hsc_same hba 0 _) 1 _) 2
      have y2 : ((wa.setCell ⟨rb, 0, none⟩ (.int .i64 un)).setCell ⟨rb, 1, none⟩ (.int .i64 uo)).drew.cell? ⟨rb, 2, none⟩ = some (.slice none 0 0) := cell_of (hsc_same (hsc_same hba 0 _) 1 _) (by rfl)
      have e0 : wa.frozen? ⟨rb, 0, none⟩ = false := free_of hba 0
      have e1 : wa.frozen? ⟨rb, 1, none⟩ = false := free_of hba 1
      have e2 : wa.frozen? ⟨rb, 2, none⟩ = false := free_of hba 2
      clear hba
      refine Plan.pl_ac rfl ?_
      go_wp2
      refine Plan.plQ_mk Plan.chk_end ?_
      refine Plan.pl_end ?_
      rw [← hw6]
      clear hw6 z0 z1 z2 f0 f1 y1 f2 y2 e0 e1 e2
      have HK16 : Hid (∀ wy, Keep (fun g => g = rb) w6 wy → Keep (fun _ => False) wo wy) := hid (fun wy hk => HK6.out.trans' hk (fun i hi e => by have := HRBS.out; omega))
      go_wp2_with fail
      go_loopw [6] (fun i wr => ∃ (j : Nat) (v : Value), j ≤ us.length ∧ i = iV j ∧ wr.heap[rb]? = some (.cells #[.int .i64 un, .int .i64 uo, v] 38 (0, 0)) ∧ Ex2 wr w6.heap.size (us.take j) v ∧ Keep (fun g => g = rb) w6 wr) (fun i _ => us.length + 1 - (intOf i).toNat)
      case atStart => exact ⟨0, .slice none 0 0, Nat.zero_le _, rfl, HR6.out, Ex2.nil _ _, Keep.refl _ _⟩
      case round =>
        obtain ⟨j, v, hj, rfl, hrb, hex, hkj⟩ := hrel
        obtain ⟨xs, e1, e2, e3⟩ := hex
        have hlen : (us.take j).length = j := by rw [List.length_take]; omega
        have HE1 := hid e1; have HE2 := hid e2; have HE3 := hid e3; have HRB := hid hrb; have HKJ := hid hkj; have HLEN := hid hlen
        obtain ⟨vp, vc, rfl⟩ := owns_val e2
        rw [hlen] at HE2 HRB
        clear e1 e2 e3 hrb hkj
        have HKW := hid (HK16.out _ HKJ.out)
        have s2 := HW.out _ (HKQ.out _ HKW.out)
        obtain ⟨d0, d1, d2⟩ := HC2.out _ HKW.out
        by_cases hjlt : j < us.length
        · obtain ⟨e, hej⟩ : ∃ e, us[j]? = some e := ⟨us[j], by simp [hjlt]⟩
          have HTJ := hid (take_next hej)
          have hel := HUL.out e (List.mem_of_getElem? hej)
          have hin2 : (0 : Int) ≤ (j : Int) ∧ (j : Int) < (us.length : Int) := ⟨by omega, by omega⟩
          have HKD := hid HKW.out.drew
          go_upto_region 9 with fail
          clear s2 d0 d1 d2
          have s2 := HW.out _ (HKQ.out _ HKD.out)
          obtain ⟨d0, d1, d2⟩ := HC2.out _ HKD.out
          obtain ⟨b2, off2, eq2, ec2, rfl, hb2, x0, hec2, hip⟩ := EP.at (HE.out _ HKD.out) hej
          have y0 : wr.drew.cell? ⟨rb, 2, none⟩ = some (.slice vp j vc) := cell_of HRB.out (by rfl)
          have HIP := hid hip
          have HB2 := hid hb2
          clear hej hip hb2 hec2
          refine Plan.wp_region_pl [(false, 0, []), (false, 1, []), (false, 2, []), (false, 3, []), (false, 4, []), (false, 5, []), (false, 6, []), (false, 7, []), (false, 8, []), (false, 9, []), (false, 10, []), (true, 11, [1, 0]), (true, 12, [1, 0]), (true, 13, []), (false, 14, []), (true, 15, [])] (by kernel_rfl) (by kernel_rfl) ?_
          iterate 11 (refine Plan.pl_st rfl ?_; go_big_quiet_step (fail); refine wpQuiet_nil ?_)
          refine Plan.pl_ac rfl ?_
          go_wp2_with fail
          refine (law_ins e eq2 ec2 _ hel HIP.out).mono ?_
          rintro r wp ⟨nv, rfl, hnv, hkp⟩
          obtain ⟨np, nc, rfl⟩ := owns_val hnv
          have HKP := hid hkp
          obtain ⟨wq, hwq, hbq, hsq, hkq⟩ := box1 wp #[.slice np e.length nc] 52
          have HKQ2 := hid (hkp.trans hkq)
          have HNV : Hid (wq.ownsRow w6.heap.size 71 6 (.slice np e.length nc) e.length (e.flatMap icl)) := hid (owns_mono (owns_keep hnv (fun g hg => hkq.block g (hnv.lt g hg).2 id)) HKJ.out.size)
          have hrq : wq.heap[rb]? = _ := HKQ2.out.get HRB.out id
          have hrp : wp.heap[rb]? = _ := hkp.get HRB.out id
          have y3 : wp.cell? ⟨rb, 2, none⟩ = some (.slice vp j vc) := cell_of hrp (by rfl)
          have y4 : wq.cell? ⟨rb, 2, none⟩ = some (.slice vp j vc) := cell_of hrq (by rfl)
          have HRQ := hid hrq
          have HOQ := hid (owns_keep HE2.out (fun g hg => HKQ2.out.block g (HE2.out.lt g hg).2 id))
          clear hnv hkp hsq hkq x0 y0 s2 d0 d1 d2 hrp hrq
          go_wp2
          refine Plan.plQ_mk ?_ ?_
          · iterate 2 (refine Plan.chk_st rfl ?_ ?_; focus (go_big_quiet_step (fail); exact wpQuiet_nil rfl))
            exact Plan.chk_end
          refine Plan.pl_ac rfl ?_
          go_wp2
          rw [← hwq]
          clear hwq
          generalize hpb : wp.heap.size = pb at *
          clear hpb
          refine Plan.plQ_mk ?_ ?_
          · iterate 2 (refine Plan.chk_st rfl ?_ ?_; focus (go_big_quiet_step (fail); exact wpQuiet_nil rfl))
            exact Plan.chk_end
          refine Plan.pl_ac rfl ?_
          refine wpList_append_rd rfl _ _ _ rfl w6.heap.size _ i0 _ 1 24 Try.underlying36 hi0 hz0 hz1 hz2 rfl (by decide) _ j _ (by rfl) HOQ.out _ 1 [.slice np e.length nc] (by rfl) (rd_block hbq (by simp) (by simp [Value.oneCell'])) (by unfold maxLen; omega) (by omega) (by have h1 := HKJ.out.size; have h2 := HKQ2.out.size; have h3 : wr.drew.heap.size = wr.heap.size := rfl; omega) ?_
          intro v' w5 hown5 hgrow5 hat5 hn5
          obtain ⟨vq, vd, rfl⟩ := owns_val hown5
          have hrl := lt_of_heap HRQ.out
          have hr5 := (hgrow5.block rb hrl (fun e => by have h1 := (HOQ.out.lt _ e.symm).1; have h2 := lt_of_heap HR6.out; omega)).trans HRQ.out
          have z0 : w5.cell? ⟨rb, 2, none⟩ = some (.slice vp j vc) := cell_of hr5 (by rfl)
          have z1 : w5.frozen? ⟨rb, 2, none⟩ = false := free_of hr5 2
          have HEX := hid (ex2_push HLEN.out HE1.out HOQ.out (fun i x y hx hy => owns_keep (HE3.out i x y hx hy) (fun g hg => HKQ2.out.block g ((HE3.out i x y hx hy).lt g hg).2 id)) HNV.out hgrow5 hown5)
          have HFIN : Hid ((w5.setCell ⟨rb, 2, none⟩ (.slice vq (j + 1) vd)).heap[rb]? = some (.cells #[.int .i64 un, .int .i64 uo, .slice vq (j + 1) vd] 38 (0, 0)) ∧ Ex2 (w5.setCell ⟨rb, 2, none⟩ (.slice vq (j + 1) vd)) w6.heap.size (us.take (j + 1)) (.slice vq (j + 1) vd) ∧ Keep (fun g => g = rb) w6 (w5.setCell ⟨rb, 2, none⟩ (.slice vq (j + 1) vd))) := hid (by
            refine ⟨hsc_same hr5 2 _, ?_, ?_⟩
            · rw [HTJ.out]
              exact HEX.out.set hr5 (by decide) (by decide) 2 _
            · refine Keep.setCell (S := fun g => g = rb) ?_ (p := ⟨rb, 2, none⟩) rfl _
              exact (HKJ.out.drew.trans' HKQ2.out (fun i hi e => e.elim)).grown hgrow5 (fun g hg => .inl (HOQ.out.lt _ hg).1))
          clear hown5 hgrow5 hat5 hn5 hr5 hrl hbq y3 y4
          go_wp2
          refine Plan.plQ_mk Plan.chk_end ?_
          iterate 1 (refine Plan.pl_st rfl ?_; go_big_quiet_step (fail); refine wpQuiet_nil ?_)
          refine Plan.pl_ac rfl ?_
          go_wp2
          refine Plan.plQ_mk Plan.chk_end ?_
          refine Plan.pl_end ?_
          go_wp2
          go_roundw
          case rel => exact ⟨j + 1, .slice vq (j + 1) vd, by omega, by go_num, HFIN.out.1, HFIN.out.2.1, HFIN.out.2.2⟩
          case measure => simp [intOf]; omega
        · obtain rfl : j = us.length := by omega
          have g0 : decide ((us.length : Int) < (us.length : Int)) = false := decide_eq_false (by omega)
          have HEXC : Hid (Ex2 wr rb us (.slice vp us.length vc)) := hid (by
            refine Ex2.low (base := w6.heap.size) ?_ (by have h2 := lt_of_heap HR6.out; omega)
            have h1 := HE1.out; have h3 := HE3.out
            rw [List.take_length] at h1 h3
            exact ⟨xs, h1, HE2.out, h3⟩)
          obtain ⟨vs, h1, h2, h3⟩ := HRU.out
          have hlen2 : (rs.take k).length = k := by rw [List.length_take]; omega
          rw [hlen2] at h2
          have HV1 := hid h1; have HV3 := hid h3; have HLEN2 := hid hlen2
          have HOW := hid (owns_keep h2 (fun g hg => HKW.out.block g (h2.lt g hg).2 id))
          have hqc := HKW.out.get HQ.out id
          have HQC := hid hqc
          have q2 : wr.cell? ⟨sb + 1 + 1, 2, none⟩ = some (.slice rp k rc) := cell_of hqc (by rfl)
          have r0 : wr.cell? ⟨rb, 0, none⟩ = some (.int .i64 un) := cell_of HRB.out (by rfl)
          have r1 : wr.cell? ⟨rb, 1, none⟩ = some (.int .i64 uo) := cell_of HRB.out (by rfl)
          have r2 : wr.cell? ⟨rb, 2, none⟩ = some (.slice vp us.length vc) := cell_of HRB.out (by rfl)
          have hsz := HKW.out.size
          have hsz2 := HKR.out.size
          have hqs := lt_of_heap HQ4.out
          clear h1 h2 h3 hlen2 hqc
          go_wp2_with (at_builtin; go_loud (refine wpList_append_rd rfl (.tmp 59) (.tmp 61) _ rfl w3.heap.size _ j0 _ 3 40 Try.underlying39 hj0 hy0 hy1 hy2 rfl (by decide) _ k _ (by rfl) (HOW.out.alloc _) _ 1 [.int .i64 un, .int .i64 uo, .slice vp us.length vc] (by rfl) (rd_block (heap_alloc_new wr _) (by simp) (by simp [Value.oneCell'])) (by unfold maxLen; omega) (by omega) (by simp; omega) ?_); go_loud (intro v' w5 hown5 hgrow5 hat5 hn5; obtain ⟨vq, vd, rfl⟩ := owns_val hown5; have HO5 := hid hown5; have HG5 := hid hgrow5; have hq5 := (hgrow5.block (sb + 1 + 1) (by simp; omega) (fun e => by have h1 := (HOW.out.lt _ e.symm).1; omega)).trans (((Keep.refl (fun _ => False) wr).alloc _).get HQC.out id); have HQ5 := hid hq5; have z0 : w5.cell? ⟨sb + 1 + 1, 2, none⟩ = some (.slice rp k rc) := cell_of hq5 (by rfl); have z1 : w5.frozen? ⟨sb + 1 + 1, 2, none⟩ = false := free_of hq5 2; clear hown5 hgrow5 hat5 hn5 hq5))
          have HFIN : Hid ((w5.setCell ⟨sb + 1 + 1, 2, none⟩ (.slice vq (k + 1) vd)).heap[sb + 1 + 1]? = some (.cells #[.int .i64 va, .int .i64 vb, .slice vq (k + 1) vd] 41 (0, 0)) ∧ Ru2 (w5.setCell ⟨sb + 1 + 1, 2, none⟩ (.slice vq (k + 1) vd)) w3.heap.size (rs.take k ++ [⟨un, uo, us⟩]) (.slice vq (k + 1) vd) ∧ Keep (fun g => g = sb + 1 + 1) w3 (w5.setCell ⟨sb + 1 + 1, 2, none⟩ (.slice vq (k + 1) vd))) := hid (by
            refine ⟨hsc_same HQ5.out 2 _, ?_, ?_⟩
            · refine Ru2.set ?_ HQ5.out (by decide) (by decide) (by decide) 2 _
              have hka := (HKW.out.alloc (.cells #[.int .i64 un, .int .i64 uo, .slice vp us.length vc] 38))
              exact ru2_push (r := ⟨un, uo, us⟩) HLEN2.out HV1.out (HOW.out.alloc _) (fun i r x hr hx => (HV3.out i r x hr hx).keep0 hka) ((HEXC.out.keep0 ((Keep.refl _ _).alloc _)).low (by have := HRBS.out; omega)) HG5.out HO5.out
            · refine Keep.setCell (S := fun g => g = sb + 1 + 1) ?_ (p := ⟨sb + 1 + 1, 2, none⟩) rfl _
              exact ((HKR.out.trans' HKW.out (fun i hi e => e.elim)).alloc _).grown HG5.out (fun g hg => .inl (HOW.out.lt _ hg).1))
          go_wp2
          go_roundw
          case rel => exact ⟨k + 1, vq, vd, by omega, by go_num, HFIN.out.1, by rw [HTK.out]; exact HFIN.out.2.1, HFIN.out.2.2⟩
          case measure => simp [intOf]; omega
    · obtain rfl : k = rs.length := by omega
      have g0 : decide ((rs.length : Int) < (rs.length : Int)) = false := decide_eq_false (by omega)
      have q0 : wo.cell? ⟨sb + 1 + 1, 0, none⟩ = some (.int .i64 va) := cell_of HQ.out (by rfl)
      have q1 : wo.cell? ⟨sb + 1 + 1, 1, none⟩ = some (.int .i64 vb) := cell_of HQ.out (by rfl)
      have q2 : wo.cell? ⟨sb + 1 + 1, 2, none⟩ = some (.slice rp rs.length rc) := cell_of HQ.out (by rfl)
      have hr := HRES.out _ HKR.out
      have HR := hid hr
      have f0 : wo.frozen? ⟨sb + 1, 0, none⟩ = false := free_of hr 0
      have f1 : wo.frozen? ⟨sb + 1, 1, none⟩ = false := free_of hr 1
      have f2 : wo.frozen? ⟨sb + 1, 2, none⟩ = false := free_of hr 2
      have r0 : wo.cell? ⟨sb + 1, 0, none⟩ = some (.int .i64 0) := cell_of hr (by rfl)
      have r1 : wo.cell? ⟨sb + 1, 1, none⟩ = some (.int .i64 0) := cell_of hr (by rfl)
      have r2 : wo.cell? ⟨sb + 1, 2, none⟩ = some (.slice none 0 0) := cell_of hr (by rfl)
      clear hr
      go_wp2
      (try simp only [Exit.inBlock, Exit.then])
      obtain ⟨wf, hwf⟩ : ∃ wf, wf = ((wo.setCell ⟨sb + 1, 0, none⟩ (.int .i64 va)).setCell ⟨sb + 1, 1, none⟩ (.int .i64 vb)).setCell ⟨sb + 1, 2, none⟩ (.slice rp rs.length rc) := ⟨_, rfl⟩
      have HRF : Hid (wf.heap[sb + 1]? = some (.cells #[.int .i64 va, .int .i64 vb, .slice rp rs.length rc] 41 (0, 0))) := hid (by
        rw [hwf]
        exact hsc_same (hsc_same (hsc_same HR.out 0 _) 1 _) 2 _)
      have hruf : Ru2 wf w3.heap.size (rs.take rs.length) (.slice rp rs.length rc) := by
        rw [hwf]
        refine Ru2.set (Ru2.set (Ru2.set HRU.out HR.out (by decide) (by decide) (by decide) 0 _) (hsc_same HR.out 0 _) (by decide) (by decide) (by decide) 1 _) (hsc_same (hsc_same HR.out 0 _) 1 _) (by decide) (by decide) (by decide) 2 _
      rw [List.take_length] at hruf
      have hkf : Keep (fun _ => False) w wf := by
        rw [hwf]
        have h1 := HLOW.out _ HKR.out
        have h2 := HSB.out
        exact ((h1.setCell_new (p := ⟨sb + 1, 0, none⟩) (by simp only; omega) _).setCell_new (p := ⟨sb + 1, 1, none⟩) (by simp only; omega) _).setCell_new (p := ⟨sb + 1, 2, none⟩) (by simp only; omega) _
      rw [← hwf]
      clear hwf
      refine bodyPost_ret (results_c rfl _ rfl (run_loadVar_row _ (sb + 1) _ 41 _ _ _ HRF.out Try.underlying41 rfl (by kernel_rfl))) rfl ?_
      exact ⟨rp, rc, rfl, hruf.up, hkf⟩
end Go.Proofs.Ytenoeondfdiklaa
