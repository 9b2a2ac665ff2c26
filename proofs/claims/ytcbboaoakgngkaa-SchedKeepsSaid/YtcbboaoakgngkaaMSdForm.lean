/- What is proved: a system in the document's form, built instruction by instruction; a row of them. -/
import Derived.Test.YtcbboaoakgngkaaMSdOrder
import Derived.Test.YtcbboaoakgngkaaMCr1
import Derived.Test.YtcbboaoakgngkaaMHeap
import Derived.Laws.BitsLemmas
import Derived.Deep.Cut
import Derived.Deep.CutRange
import Derived.Deep.CutBlock
import Derived.Test.YtcbboaoakgngkaaMRegion
import Derived.Laws.Externs
import Derived.Test.YtcbboaoakgngkaaMLay
namespace Go.Proofs.Ytcbboaoakgngkaa
open Go.RowKit Go.Proofs.Heap Go.Proofs.Sch

def ocS (x : VOp) : List Value := [.int .i64 x.code, .int .i64 x.a, .int .i64 x.b, .int .i64 x.c, .int .i64 x.k]
theorem info_opS : (Try.prog.info? 81).map (fun i => (i.zero, i.size, i.bytes)) = some (some (.agg #[.int .i64 0, .int .i64 0, .int .i64 0, .int .i64 0, .int .i64 0]), 5, 40) := by kernel_rfl
theorem flat_getS {α β : Type} {f : α → List β} {z : Nat} (hf : ∀ x, (f x).length = z) : ∀ {l : List α} {i r : Nat} {x : α}, l[i]? = some x → r < z → (l.flatMap f)[i * z + r]? = (f x)[r]?
  | [], i, r, x, h, _ => by simp at h
  | a :: l, 0, r, x, h, hr => by
    simp at h
    subst h
    rw [List.flatMap_cons, Nat.zero_mul, Nat.zero_add, List.getElem?_append_left (by rw [hf]; exact hr)]
  | a :: l, i + 1, r, x, h, hr => by
    rw [List.flatMap_cons, List.getElem?_append_right (by rw [hf]; rw [Nat.succ_mul]; omega), hf, show (i + 1) * z + r - z = i * z + r by rw [Nat.succ_mul]; omega]
    exact flat_getS hf (by simpa using h) hr
theorem owns_flatS {α : Type} {f : α → List Value} {z : Nat} (hf : ∀ x, (f x).length = z) {w : World} {base n c g i r : Nat} {e : TypeId} {l : List α} {x : α} {u : Value} (h : w.ownsRow base e z (.slice (some ⟨g, 0, none⟩) n c) n (l.flatMap f)) (hx : l[i]? = some x) (hr : r < z) (hu : (f x)[r]? = some u) : w.cell? ⟨g, i * z + r, none⟩ = some u := by
  have h1 := flat_getS hf hx hr
  rw [hu] at h1
  have h2 := h.cells (g := g) rfl (i * z + r) u h1
  have hadd : (⟨g, 0, none⟩ : Addr).add (i * z + r) = ⟨g, i * z + r, none⟩ := by unfold Addr.add; split <;> simp_all
  rwa [hadd] at h2
theorem vp_ownS {w : World} {base n c : Nat} {e : TypeId} {p : Option Addr} {l : List VOp} (hn : l.length = n) (h : w.ownsRow base e 5 (.slice p n c) n (l.flatMap ocS)) : VP w w.heap.size p l := by
  rcases Nat.eq_zero_or_pos n with h0 | h0
  · exact .inl (List.eq_nil_of_length_eq_zero (by omega))
  · obtain ⟨q, rfl⟩ := owns_some h h0
    refine .inr ⟨q, 0, rfl, (h.lt q (by simp [Value.ownBlock])).2, fun i x hx => ?_⟩
    have hf : ∀ x, (ocS x).length = 5 := fun _ => rfl
    rw [Nat.zero_add]
    exact ⟨owns_flatS hf h hx (r := 0) (by omega) rfl, owns_flatS hf h hx (r := 1) (by omega) rfl, owns_flatS hf h hx (r := 2) (by omega) rfl, owns_flatS hf h hx (r := 3) (by omega) rfl, owns_flatS hf h hx (r := 4) (by omega) rfl⟩
theorem cells6S {w : World} {b : Nat} {t : TypeId} {v0 v1 v2 v3 v4 v5 : Value} (x0 x1 x2 x3 x4 x5 : Value) (h : w.heap[b]? = some (.cells #[v0, v1, v2, v3, v4, v5] t (0, 0))) :
    ((((((w.setCell ⟨b, 0, none⟩ x0).setCell ⟨b, 1, none⟩ x1).setCell ⟨b, 2, none⟩ x2).setCell ⟨b, 3, none⟩ x3).setCell ⟨b, 4, none⟩ x4).setCell ⟨b, 5, none⟩ x5).heap[b]? = some (.cells #[x0, x1, x2, x3, x4, x5] t (0, 0)) := by
  rw [hsc_same (hsc_same (hsc_same (hsc_same (hsc_same (hsc_same h 0 x0) 1 x1) 2 x2) 3 x3) 4 x4) 5 x5]; rfl

set_option maxRecDepth 20000 in
set_option maxHeartbeats 16000000 in
theorem sl_form (s : VSys) (pa : Option Addr) (ca : Nat) (pc : Option Addr) (cc : Nat) (w : World) (hl : s.code.length ≤ 1000) (hc : VP w w.heap.size pc s.code) :
    Calls Try.prog 23 #[SysV s pa ca pc cc] w fun r w' => ∃ oa oc, r = .returned (SysV s pa ca oa oc) ∧ VP w' w'.heap.size oa s.code ∧ (∀ ad, oa = some ad → w.heap.size ≤ ad.block ∧ ad.block < w'.heap.size) ∧ Keep (fun _ => False) w w' := by
  obtain ⟨w1, hw1, hb1, hb2, hb3, hs1, hk1⟩ := box3 w (SysC s pa ca pc cc) #[.string ⟨#[]⟩, .int .i64 0, .slice none 0 0, .int .u32 0, .int .u32 0, .slice none 0 0] #[.string s.name, .int .i64 s.stage, .slice pa s.after.length ca, .int .u32 (s.all : Int), .int .u32 (s.none : Int), .slice none 0 0] 43 46 46
  have HK1 := hid hk1; have HB1 := hid hb1; have HB2 := hid hb2; have HB3 := hid hb3
  have HVP : Hid (∀ wy, Keep (fun _ => False) w wy → VP wy wy.heap.size pc s.code) := hid (fun wy hk => VP.mono (VP.low hc (Low.keep0 hk)) hk.size)
  have HL := hid hl
  have HSZ : Hid (w1.heap.size = w.heap.size + 1 + 1 + 1) := hid (by omega)
  obtain ⟨i0, hi0, hz0, hz1, hz2⟩ := info_parts' info_opS
  have HI := hid (And.intro hi0 (And.intro hz0 (And.intro hz1 hz2)))
  have c0 := cell_of hb1 (i := 0) (by rfl)
  have c1 := cell_of hb1 (i := 1) (by rfl)
  have c2 := cell_of hb1 (i := 2) (by rfl)
  have c3 := cell_of hb1 (i := 3) (by rfl)
  have c4 := cell_of hb1 (i := 4) (by rfl)
  have c5 := cell_of hb1 (i := 5) (by rfl)
  clear hi0 hz0 hz1 hz2 hb1 hb2 hb3 hk1 hs1 hc hl
  go_enter Try.func23, Try.ntmps23
  go_upto_region 2 with fail
  rw [← hw1]
  clear hw1 c0 c1 c2 c3 c4 c5
  obtain ⟨sb, hsb⟩ : ∃ sb, w.heap.size = sb := ⟨_, rfl⟩
  have HSB := hid hsb
  rw [hsb] at HB1 HB2 HB3 HSZ ⊢
  clear hsb
  go_wp2_with fail
  go_loopw [4, 5] (fun i _ wr => ∃ (k : Nat) (a : Option Addr) (c : Nat), k ≤ s.code.length ∧ i = iV k ∧ wr.heap[sb + 1 + 1]? = some (.cells #[.string s.name, .int .i64 s.stage, .slice pa s.after.length ca, .int .u32 (s.all : Int), .int .u32 (s.none : Int), .slice a k c] 46 (0, 0)) ∧ wr.ownsRow w1.heap.size 81 5 (.slice a k c) k ((s.code.take k).flatMap ocS) ∧ Keep (fun k => k = sb + 1 + 1) w1 wr) (fun i _ _ => s.code.length + 1 - (intOf i).toNat)
  case atStart => exact ⟨0, none, 0, by omega, rfl, HB3.out, World.ownsRow_nil _ _ _ _, Keep.refl _ _⟩
  case round =>
    obtain ⟨k, a, c, hk, rfl, hbo, hown, hkr⟩ := hrel
    have HBO := hid hbo; have HO := hid hown; have HKR := hid hkr
    have HKW : Hid (Keep (fun _ => False) w wr) := hid (keep_new HK1.out hkr (fun k e => by have := HSB.out; omega))
    have HBS : Hid (wr.heap[sb]? = some (.cells (SysC s pa ca pc cc) 43 (0, 0))) := hid (hkr.get HB1.out (by omega))
    have c5 : wr.cell? ⟨sb, 5, none⟩ = some (.slice pc s.code.length cc) := cell_of HBS.out (by rfl)
    clear hbo hown hkr
    have hl := HL.out
    by_cases hlt : k < s.code.length
    · obtain ⟨x, hx⟩ : ∃ x, s.code[k]? = some x := ⟨s.code[k], by simp [hlt]⟩
      obtain ⟨b, off, rfl, hb, x0, x1, x2, x3, x4⟩ := VP.at (HVP.out _ HKW.out) hx
      have hin : (0 : Int) ≤ (k : Int) ∧ (k : Int) < (s.code.length : Int) := ⟨by omega, by omega⟩
      have HNX : Hid ((s.code.take (k + 1)).flatMap ocS = (s.code.take k).flatMap ocS ++ ocS x) := hid (by rw [take_next hx, List.flatMap_append]; simp)
      generalize (s.code.take k).flatMap ocS = cl at *
      obtain ⟨w5, hw5, hb5, hs5, hk5⟩ := box1 wr (OC x) 54
      have HK5 := hid (HKR.out.trans (hk5.mono (T := fun k => k = sb + 1 + 1) (fun _ _ h => h.elim)))
      have HB5 := hid hb5
      have HO5 := hid (owns_keep (w' := w5) HO.out (fun j hj => hk5.block j (HO.out.lt j hj).2 id))
      have HBO5 := hid (hk5.get HBO.out id)
      clear hx hb hb5 hs5 hk5
      go_upto_region 6 with fail
      rw [← hw5]
      clear hw5 x0 x1 x2 x3 x4 c5
      generalize wr.heap.size = xb at *
      have y0 : w5.cell? ⟨xb, 0, none⟩ = some (.int .i64 x.code) := cell_of HB5.out (by rfl)
      have y1 : w5.cell? ⟨xb, 1, none⟩ = some (.int .i64 x.a) := cell_of HB5.out (by rfl)
      have y2 : w5.cell? ⟨xb, 2, none⟩ = some (.int .i64 x.b) := cell_of HB5.out (by rfl)
      have y3 : w5.cell? ⟨xb, 3, none⟩ = some (.int .i64 x.c) := cell_of HB5.out (by rfl)
      have y4 : w5.cell? ⟨xb, 4, none⟩ = some (.int .i64 x.k) := cell_of HB5.out (by rfl)
      have z5 : w5.cell? ⟨sb + 1 + 1, 5, none⟩ = some (.slice a k c) := cell_of HBO5.out (by rfl)
      have HBW : Hid (sb + 1 + 1 < w5.heap.size) := hid (lt_of_heap HBO5.out)
      have HNB : Hid ((Value.slice a k c).ownBlock ≠ some (sb + 1 + 1)) := hid (fun e => by have := (HO5.out.lt _ e).1; have := HSZ.out; omega)
      go_wp2_with (at_builtin; go_loud (refine wpList_append_rd rfl _ _ _ rfl w1.heap.size _ i0 _ 5 40 Try.underlying30 HI.out.1 HI.out.2.1 HI.out.2.2.1 HI.out.2.2.2 rfl (by decide) _ k cl (by rfl) (HO5.out.alloc _) _ 1 (ocS x) (by rfl) (rd_block (heap_alloc_new w5 _) (by simp [ocS]) (by simp [ocS, Value.oneCell'])) (by unfold maxLen; omega) (by omega) (by have := HK5.out.size; simp; omega) ?_; intro v' w6 hown6 hgrow6 hat6 hn6; obtain ⟨vr, ve, rfl⟩ := owns_val hown6; rw [← HNX.out] at hown6; have HO6 := hid hown6; have HKO := hid ((Keep.refl (fun j => (Value.slice a k c).ownBlock = some j) w5).alloc _ |>.grown hgrow6 (fun k hk => .inr hk)); have HK6 := hid (HK5.out.trans' HKO.out (fun j hj h => by have := (HO5.out.lt j h).1; omega)); have HB6 := hid (HKO.out.get HBO5.out HNB.out); have HN6 : Hid ((Value.slice vr (k + 1) ve).ownBlock ≠ some (sb + 1 + 1)) := hid (fun e => by have := (HO6.out.lt _ e).1; have := HSZ.out; omega); have q5 : w6.cell? ⟨sb + 1 + 1, 5, none⟩ = some (.slice a k c) := cell_of HB6.out (by rfl); have f5 : w6.frozen? ⟨sb + 1 + 1, 5, none⟩ = false := free_of HB6.out 5; clear hown6 hgrow6 hat6 hn6 y0 y1 y2 y3 y4 z5))
      go_roundw
      case rel => exact ⟨k + 1, vr, ve, by omega, by go_num, by rw [hsc_same HB6.out]; rfl, owns_keep HO6.out (fun j hj => hsc_ne _ (fun e => HN6.out (e ▸ hj))), HK6.out.setCell (p := ⟨sb + 1 + 1, 5, none⟩) rfl _⟩
      case measure => simp [intOf]; omega
    · obtain rfl : k = s.code.length := by omega
      have HVF : Hid (VP wr wr.heap.size a s.code) := hid (vp_ownS rfl (by have := HO.out; rwa [List.take_length] at this))
      obtain ⟨tb, htb⟩ : ∃ tb, sb + 1 = tb := ⟨_, rfl⟩
      have HTB := hid htb
      have HB2' : Hid (wr.heap[tb]? = some (.cells #[.string ⟨#[]⟩, .int .i64 0, .slice none 0 0, .int .u32 0, .int .u32 0, .slice none 0 0] 46 (0, 0))) := hid (by rw [← htb]; exact HKR.out.get HB2.out (by omega))
      rw [htb] at HBO ⊢
      clear htb
      have z0 := cell_of HB2'.out (i := 0) (by rfl)
      have z1 := cell_of HB2'.out (i := 1) (by rfl)
      have z2 := cell_of HB2'.out (i := 2) (by rfl)
      have z3 := cell_of HB2'.out (i := 3) (by rfl)
      have z4 := cell_of HB2'.out (i := 4) (by rfl)
      have z5 := cell_of HB2'.out (i := 5) (by rfl)
      have f0 := free_of HB2'.out 0
      have f1 := free_of HB2'.out 1
      have f2 := free_of HB2'.out 2
      have f3 := free_of HB2'.out 3
      have f4 := free_of HB2'.out 4
      have f5 := free_of HB2'.out 5
      have q0 := cell_of HBO.out (i := 0) (by rfl)
      have q1 := cell_of HBO.out (i := 1) (by rfl)
      have q2 := cell_of HBO.out (i := 2) (by rfl)
      have q3 := cell_of HBO.out (i := 3) (by rfl)
      have q4 := cell_of HBO.out (i := 4) (by rfl)
      have q5 := cell_of HBO.out (i := 5) (by rfl)
      have HB4 := hid (cells6S (.string s.name) (.int .i64 s.stage) (.slice pa s.after.length ca) (.int .u32 (s.all : Int)) (.int .u32 (s.none : Int)) (.slice a s.code.length c) HB2'.out)
      have HK4 : Hid (Keep (fun k => k = tb) wr ((((((wr.setCell ⟨tb, 0, none⟩ (.string s.name)).setCell ⟨tb, 1, none⟩ (.int .i64 s.stage)).setCell ⟨tb, 2, none⟩ (.slice pa s.after.length ca)).setCell ⟨tb, 3, none⟩ (.int .u32 (s.all : Int))).setCell ⟨tb, 4, none⟩ (.int .u32 (s.none : Int))).setCell ⟨tb, 5, none⟩ (.slice a s.code.length c))) := hid (((((((Keep.refl (fun k => k = tb) wr).setCell (p := ⟨tb, 0, none⟩) rfl _).setCell (p := ⟨tb, 1, none⟩) rfl _).setCell (p := ⟨tb, 2, none⟩) rfl _).setCell (p := ⟨tb, 3, none⟩) rfl _).setCell (p := ⟨tb, 4, none⟩) rfl _).setCell (p := ⟨tb, 5, none⟩) rfl _)
      have HOWN := HO
      have HFIN : Hid (∀ w3, Keep (fun k => k = tb) wr w3 → VP w3 w3.heap.size a s.code ∧ (∀ ad, a = some ad → w.heap.size ≤ ad.block ∧ ad.block < w3.heap.size) ∧ Keep (fun _ => False) w w3) := hid (fun w3 hk => by
        refine ⟨?_, ?_, ?_⟩
        · have ho := owns_keep (w' := w3) HOWN.out (fun k hk' => hk.block k (HOWN.out.lt k hk').2 (fun e => by
            have h1 := (HOWN.out.lt k hk').1
            have h2 := HTB.out
            have h3 := HSZ.out
            omega))
          rw [List.take_length] at ho
          exact vp_ownS rfl ho
        · rintro ad rfl
          rcases owns_block HOWN.out with ⟨e, _⟩ | ⟨g, _, _, e, hb, hg, _⟩
          · cases e
          · injection e with e
            injection e with e
            subst e
            have h1 := lt_of_heap hg
            have h2 := hk.size
            have h3 := HK1.out.size
            exact ⟨by show w.heap.size ≤ g; omega, by show g < w3.heap.size; omega⟩
        · exact keep_new HKW.out hk (fun k e => by have := HTB.out; have := HSB.out; omega))
      go_wp2_with fail
      clear z0 z1 z2 z3 z4 z5 f0 f1 f2 f3 f4 f5 q0 q1 q2 q3 q4 q5
      generalize ((((((wr.setCell ⟨tb, 0, none⟩ (.string s.name)).setCell ⟨tb, 1, none⟩ (.int .i64 s.stage)).setCell ⟨tb, 2, none⟩ (.slice pa s.after.length ca)).setCell ⟨tb, 3, none⟩ (.int .u32 (s.all : Int))).setCell ⟨tb, 4, none⟩ (.int .u32 (s.none : Int))).setCell ⟨tb, 5, none⟩ (.slice a s.code.length c)) = w3 at *
      (try simp only [Exit.inBlock, Exit.then])
      refine bodyPost_ret (results_c rfl _ rfl (run_loadVar_row _ tb _ 46 _ _ _ HB4.out Try.underlying46 rfl (by kernel_rfl))) rfl ?_
      exact ⟨a, c, rfl, HFIN.out w3 HK4.out⟩
end Go.Proofs.Ytcbboaoakgngkaa

namespace Go.Proofs.Ytcbboaoakgngkaa
open Go.RowKit Go.Proofs.Heap Go.Proofs.Sch

abbrev Tt := VSys × (Option Addr × Nat) × (Option Addr × Nat)
def c6t (x : Tt) : List Value := [.string x.1.name, .int .i64 x.1.stage, .slice x.2.1.1 x.1.after.length x.2.1.2, .int .u32 (x.1.all : Int), .int .u32 (x.1.none : Int), .slice x.2.2.1 x.1.code.length x.2.2.2]
theorem c6t_one (X : List Tt) : ∀ u ∈ X.flatMap c6t, u.oneCell' = true := by
  intro u hu
  obtain ⟨x, _, hx⟩ := List.mem_flatMap.1 hu
  simp [c6t] at hx
  rcases hx with rfl | rfl | rfl | rfl | rfl | rfl <;> rfl
theorem c6t_len (X : List Tt) : (X.flatMap c6t).length = X.length * 6 := by
  induction X with
  | nil => rfl
  | cons a X ih => rw [List.flatMap_cons, List.length_append, ih, List.length_cons]; simp [c6t]; omega
structure XT (w : World) (B : Nat) (x : Tt) : Prop where
  all : x.1.all < 4294967296
  none : x.1.none < 4294967296
  room : x.1.after.length ≤ x.2.1.2
  aft : TP w B x.2.1.1 x.1.after
  cod : VP w B x.2.2.1 x.1.code
theorem XT.low {w w' : World} {B : Nat} {x : Tt} (h : XT w B x) (hl : Low B w w') : XT w' B x := ⟨h.all, h.none, h.room, TP.low h.aft hl, VP.low h.cod hl⟩
theorem sp_tus {w : World} {B b off : Nat} {l : List VSys} (h : SP w B (some ⟨b, off, none⟩) l) : ∃ X : List Tt, X.map (·.1) = l ∧ (∀ x ∈ X, XT w B x) ∧ ∀ i x, X[i]? = some x → ∀ r u, (c6t x)[r]? = some u → w.cell? ⟨b, off + i * 6 + r, none⟩ = some u := by
  have key : ∀ k, k ≤ l.length → ∃ X : List Tt, X.map (·.1) = l.take k ∧ (∀ x ∈ X, XT w B x) ∧ ∀ i x, X[i]? = some x → ∀ r u, (c6t x)[r]? = some u → w.cell? ⟨b, off + i * 6 + r, none⟩ = some u := by
    intro k
    induction k with
    | zero => exact fun _ => ⟨[], by simp, by simp, fun i x hx => by simp at hx⟩
    | succ k ih =>
      intro hk
      obtain ⟨X, h1, h2, h3⟩ := ih (by omega)
      obtain ⟨s, hs⟩ : ∃ s, l[k]? = some s := ⟨l[k], by simp [show k < l.length by omega]⟩
      obtain ⟨b', off', pa, ca, pc, cc, hp, _, d0, d1, d2, d3, d4, d5, n1, n2, hca, hta, hvc⟩ := SP.at h hs
      injection hp with hp
      injection hp with e1 e2
      subst e1; subst e2
      have hXl : X.length = k := by
        have := congrArg List.length h1
        rw [List.length_map, List.length_take] at this
        omega
      refine ⟨X ++ [(s, (pa, ca), (pc, cc))], by rw [List.map_append, h1, take_next hs]; rfl, fun x hx => ?_, fun i x hx r u hu => ?_⟩
      · rcases List.mem_append.1 hx with hx | hx
        · exact h2 x hx
        · rw [List.mem_singleton.1 hx]; exact ⟨n1, n2, hca, hta, hvc⟩
      · by_cases hi : i < X.length
        · rw [List.getElem?_append_left hi] at hx
          exact h3 i x hx r u hu
        · rw [List.getElem?_append_right (by omega)] at hx
          have hik : i = k := by
            have := (List.getElem?_eq_some_iff.1 hx).1
            simp at this; omega
          subst hik
          simp [hXl] at hx
          subst hx
          match r, hu with
          | 0, hu => injection hu with hu; subst hu; exact d0
          | 1, hu => injection hu with hu; subst hu; exact d1
          | 2, hu => injection hu with hu; subst hu; exact d2
          | 3, hu => injection hu with hu; subst hu; exact d3
          | 4, hu => injection hu with hu; subst hu; exact d4
          | 5, hu => injection hu with hu; subst hu; exact d5
          | _ + 6, hu => simp [c6t] at hu
  obtain ⟨X, h1, h2, h3⟩ := key l.length (Nat.le_refl _)
  exact ⟨X, by rw [h1, List.take_length], h2, h3⟩
/-- A part of the row, as a source. -/
theorem rd_part {w : World} {b off m c k : Nat} {X : List Tt} (h3 : ∀ i x, X[i]? = some x → ∀ r u, (c6t x)[r]? = some u → w.cell? ⟨b, off + i * 6 + r, none⟩ = some u) (hm : k + m ≤ X.length) :
    Rd w 6 (.slice (some ⟨b, off + k * 6, none⟩) m c) m (((X.drop k).take m).flatMap c6t) := by
  refine ⟨?_, c6t_one _, .inr ⟨_, _, rfl, fun j u hj => ?_⟩⟩
  · rw [c6t_len, List.length_take, List.length_drop]; congr 1; omega
  · have hjl := (List.getElem?_eq_some_iff.1 hj).1
    rw [c6t_len, List.length_take, List.length_drop] at hjl
    have hq : j / 6 < m := by omega
    obtain ⟨x, hx⟩ : ∃ x, X[k + j / 6]? = some x := ⟨X[k + j / 6]'(by omega), by rw [List.getElem?_eq_getElem]⟩
    have hx2 : ((X.drop k).take m)[j / 6]? = some x := by rw [List.getElem?_take_of_lt hq, List.getElem?_drop]; exact hx
    have hf : ∀ x, (c6t x).length = 6 := fun _ => rfl
    have h4 := flat_getS hf hx2 (r := j % 6) (Nat.mod_lt _ (by decide))
    rw [show j / 6 * 6 + j % 6 = j by omega, hj] at h4
    have hadd : (⟨b, off + k * 6, none⟩ : Addr).add j = ⟨b, off + k * 6 + j, none⟩ := by unfold Addr.add; split <;> simp_all
    rw [hadd, show off + k * 6 + j = off + (k + j / 6) * 6 + j % 6 by omega]
    exact h3 _ x hx _ u h4.symm
theorem sp_laid {w : World} {base n c : Nat} {e : TypeId} {p : Option Addr} {X : List Tt} (hn : X.length = n) (h : w.ownsRow base e 6 (.slice p n c) n (X.flatMap c6t)) (hx : ∀ x ∈ X, XT w w.heap.size x) : SP w w.heap.size p (X.map (·.1)) := by
  rcases Nat.eq_zero_or_pos n with h0 | h0
  · exact .inl (by rw [List.eq_nil_of_length_eq_zero (by omega : X.length = 0)]; rfl)
  · obtain ⟨q, rfl⟩ := owns_some h h0
    refine .inr ⟨q, 0, rfl, (h.lt q (by simp [Value.ownBlock])).2, fun i s hs => ?_⟩
    have hf : ∀ x, (c6t x).length = 6 := fun _ => rfl
    rw [List.getElem?_map] at hs
    cases hy : X[i]? with
    | none => rw [hy] at hs; cases hs
    | some y =>
      rw [hy] at hs
      injection hs with hs
      subst hs
      have g := hx y (List.mem_of_getElem? hy)
      rw [Nat.zero_add]
      exact ⟨owns_flatS hf h hy (r := 0) (by omega) rfl, owns_flatS hf h hy (r := 1) (by omega) rfl, owns_flatS hf h hy (r := 3) (by omega) rfl, owns_flatS hf h hy (r := 4) (by omega) rfl, g.all, g.none, _, _, _, _, owns_flatS hf h hy (r := 2) (by omega) rfl, owns_flatS hf h hy (r := 5) (by omega) rfl, g.room, g.aft, g.cod⟩
theorem info_sysC : (Try.prog.info? 43).map (fun i => (i.zero, i.size, i.bytes)) = some (some (.agg #[.string ⟨#[]⟩, .int .i64 0, .slice none 0 0, .int .u32 0, .int .u32 0, .slice none 0 0]), 6, 80) := by kernel_rfl
theorem mod_valS (z : Int) (m : Nat) (hm : 0 < m) (hb : m ≤ 400) : ∃ q : Nat, wrap64 ((IntKind.u64.wrap z).tmod (m : Int)) = (q : Int) ∧ q < m := by
  have h : IntKind.u64.wrap z = z % 18446744073709551616 := by simp [IntKind.wrap, IntKind.bits, IntKind.signed]
  generalize IntKind.u64.wrap z = y at h
  have h0 : 0 ≤ y := by omega
  rw [Int.tmod_eq_emod_of_nonneg h0]
  have h1 := Int.emod_nonneg y (show (m : Int) ≠ 0 by omega)
  have h2 := Int.emod_lt_of_pos y (show (0 : Int) < (m : Int) by omega)
  generalize y % (m : Int) = r at h1 h2
  refine ⟨r.toNat, ?_, by omega⟩
  unfold wrap64
  omega
end Go.Proofs.Ytcbboaoakgngkaa

namespace Go.Proofs.Ytcbboaoakgngkaa
open Go.RowKit Go.Proofs.Heap Go.Proofs.Sch

def SLA : List VSys := [⟨⟨#[99]⟩, 1, [], 0, 0, []⟩, ⟨⟨#[97]⟩, 1, [⟨#[98]⟩], 0, 0, []⟩, ⟨⟨#[98]⟩, 1, [], 0, 0, []⟩, ⟨⟨#[122]⟩, 0, [], 0, 0, []⟩]
def SLB : List VSys := [⟨⟨#[97]⟩, 0, [⟨#[98]⟩], 0, 0, []⟩, ⟨⟨#[98]⟩, 0, [⟨#[97]⟩], 0, 0, []⟩]
def SLC : List VSys := [⟨⟨#[97]⟩, 0, [⟨#[98]⟩], 0, 0, []⟩]
theorem sa1 : ordE SLA = 0 := by decide +kernel
theorem sa2 : ordL SLA = [3, 2, 1, 0] := by decide +kernel
theorem sa3 : ordE SLB = 7 := by decide +kernel
theorem sa4 : ordE SLC = 6 := by decide +kernel
theorem sa5 : aheadB SLA [3, 2, 1, 0] ⟨#[98]⟩ ⟨#[97]⟩ = true := by decide +kernel
theorem sa6 : aheadB SLA [3, 2, 1, 0] ⟨#[97]⟩ ⟨#[120]⟩ = false := by decide +kernel
theorem one_str {w : World} {b : Nat} {t : TypeId} {s : ByteArray} (h : w.heap[b]? = some (.cells #[.string s] t (0, 0))) {B : Nat} (hB : b < B) : TP w B (some ⟨b, 0, none⟩) [s] :=
  .inr ⟨b, 0, rfl, hB, fun i x hx => by
    match i, hx with
    | 0, hx => injection hx with hx; subst hx; exact cell_of h (by rfl)
    | _ + 1, hx => simp at hx⟩

set_option maxRecDepth 20000 in
set_option maxHeartbeats 16000000 in
theorem sd_awake (w : World) : Calls Try.prog 21 #[] w fun r w' => r = .returned (.bool true) ∧ Keep (fun _ => False) w w' := by
  obtain ⟨w1, hw1, hb1, hb2, hs1, hk1⟩ := box2 w #[.string ⟨#[98]⟩] #[.string ⟨#[99]⟩, .int .i64 1, .slice none 0 0, .int .u32 0, .int .u32 0, .slice none 0 0, .string ⟨#[97]⟩, .int .i64 1, .slice (some ⟨w.heap.size, 0, none⟩) 1 1, .int .u32 0, .int .u32 0, .slice none 0 0, .string ⟨#[98]⟩, .int .i64 1, .slice none 0 0, .int .u32 0, .int .u32 0, .slice none 0 0, .string ⟨#[122]⟩, .int .i64 0, .slice none 0 0, .int .u32 0, .int .u32 0, .slice none 0 0] 9 43
  have HK1 := hid hk1
  have HS1 : Hid (∀ wy, Keep (fun _ => False) w1 wy → SP wy wy.heap.size (some ⟨w.heap.size + 1, 0, none⟩) SLA) := hid (fun wy hk => by
    have k1 := hk.get hb1 id
    have k2 := hk.get hb2 id
    refine .inr ⟨_, 0, rfl, lt_of_heap k2, fun i x hx => ?_⟩
    match i, hx with
    | 0, hx => injection hx with hx; subst hx; exact ⟨cell_of k2 (by rfl), cell_of k2 (by rfl), cell_of k2 (by rfl), cell_of k2 (by rfl), by decide, by decide, none, 0, none, 0, cell_of k2 (by rfl), cell_of k2 (by rfl), by decide, .inl rfl, .inl rfl⟩
    | 1, hx => injection hx with hx; subst hx; exact ⟨cell_of k2 (by rfl), cell_of k2 (by rfl), cell_of k2 (by rfl), cell_of k2 (by rfl), by decide, by decide, _, 1, none, 0, cell_of k2 (by rfl), cell_of k2 (by rfl), by decide, one_str k1 (lt_of_heap k1), .inl rfl⟩
    | 2, hx => injection hx with hx; subst hx; exact ⟨cell_of k2 (by rfl), cell_of k2 (by rfl), cell_of k2 (by rfl), cell_of k2 (by rfl), by decide, by decide, none, 0, none, 0, cell_of k2 (by rfl), cell_of k2 (by rfl), by decide, .inl rfl, .inl rfl⟩
    | 3, hx => injection hx with hx; subst hx; exact ⟨cell_of k2 (by rfl), cell_of k2 (by rfl), cell_of k2 (by rfl), cell_of k2 (by rfl), by decide, by decide, none, 0, none, 0, cell_of k2 (by rfl), cell_of k2 (by rfl), by decide, .inl rfl, .inl rfl⟩
    | _ + 4, hx => simp [SLA] at hx)
  clear hb1 hb2 hk1 hs1
  go_enter Try.func21, Try.ntmps21
  go_upto_region 2 with fail
  rw [← hw1]
  clear hw1
  generalize w.heap.size = xb at *
  go_wp2_with fail
  have hc := sd_order SLA (some ⟨xb + 1, 0, none⟩) 4 w1 (HS1.out _ (Keep.refl _ _))
  rw [sa1, sa2] at hc
  refine hc.mono ?_
  clear hc
  rintro r w2 ⟨pa, qa, rfl, hox, hk2⟩
  obtain ⟨go, rfl⟩ := owns_some hox (by decide)
  have HK2 := hid hk2
  have HD : Hid (∀ wy, Keep (fun _ => False) w2 wy → wy.cell? ⟨go, 0, none⟩ = some (.int .i64 3) ∧ wy.cell? ⟨go, 1, none⟩ = some (.int .i64 2) ∧ wy.cell? ⟨go, 2, none⟩ = some (.int .i64 1) ∧ wy.cell? ⟨go, 3, none⟩ = some (.int .i64 0)) := hid (fun wy hk => by
    have ho := owns_keep (w' := wy) hox (fun k hk' => hk.block k (hox.lt k hk').2 id)
    exact ⟨owns_cell (k := 0) ho (by decide), owns_cell (k := 1) ho (by decide), owns_cell (k := 2) ho (by decide), owns_cell (k := 3) ho (by decide)⟩)
  have HIP : Hid (∀ wy, Keep (fun _ => False) w2 wy → IP wy wy.heap.size (some ⟨go, 0, none⟩) [3, 2, 1, 0]) := hid (fun wy hk => by
    have ho := owns_keep (w' := wy) hox (fun k hk' => hk.block k (hox.lt k hk').2 id)
    exact IP.own (l := [3, 2, 1, 0]) rfl ho)
  clear hox hk2
  go_wp2_with fail
  have hc := sd_names SLA (some ⟨xb + 1, 0, none⟩) 4 w2 (HS1.out _ HK2.out)
  rw [sa1, sa2] at hc
  refine hc.mono ?_
  clear hc
  rintro r w3 ⟨pb, qb, rfl, hox, hk3⟩
  obtain ⟨gn, rfl⟩ := owns_some hox (by decide)
  have HK23 := hid hk3
  have HN : Hid (∀ wy, Keep (fun _ => False) w3 wy → wy.cell? ⟨gn, 0, none⟩ = some (.string ⟨#[122]⟩) ∧ wy.cell? ⟨gn, 1, none⟩ = some (.string ⟨#[98]⟩) ∧ wy.cell? ⟨gn, 2, none⟩ = some (.string ⟨#[97]⟩)) := hid (fun wy hk => by
    have ho := owns_keep (w' := wy) hox (fun k hk' => hk.block k (hox.lt k hk').2 id)
    exact ⟨owns_cell (k := 0) ho (by decide), owns_cell (k := 1) ho (by decide), owns_cell (k := 2) ho (by decide)⟩)
  clear hox hk3
  obtain ⟨w4, hw4, hb1, hb2, hb3, hs4, hk4⟩ := box3 w3 #[.string ⟨#[98]⟩] #[.string ⟨#[97]⟩] #[.string ⟨#[97]⟩, .int .i64 0, .slice (some ⟨w3.heap.size, 0, none⟩) 1 1, .int .u32 0, .int .u32 0, .slice none 0 0, .string ⟨#[98]⟩, .int .i64 0, .slice (some ⟨w3.heap.size + 1, 0, none⟩) 1 1, .int .u32 0, .int .u32 0, .slice none 0 0] 9 9 43
  have HK34 := hid hk4
  have HS4 : Hid (SP w4 w4.heap.size (some ⟨w3.heap.size + 1 + 1, 0, none⟩) SLB) := hid (by
    refine .inr ⟨_, 0, rfl, lt_of_heap hb3, fun i x hx => ?_⟩
    match i, hx with
    | 0, hx => injection hx with hx; subst hx; exact ⟨cell_of hb3 (by rfl), cell_of hb3 (by rfl), cell_of hb3 (by rfl), cell_of hb3 (by rfl), by decide, by decide, _, 1, none, 0, cell_of hb3 (by rfl), cell_of hb3 (by rfl), by decide, one_str hb1 (lt_of_heap hb1), .inl rfl⟩
    | 1, hx => injection hx with hx; subst hx; exact ⟨cell_of hb3 (by rfl), cell_of hb3 (by rfl), cell_of hb3 (by rfl), cell_of hb3 (by rfl), by decide, by decide, _, 1, none, 0, cell_of hb3 (by rfl), cell_of hb3 (by rfl), by decide, one_str hb2 (lt_of_heap hb2), .inl rfl⟩
    | _ + 2, hx => simp [SLB] at hx)
  clear hb1 hb2 hb3 hk4 hs4
  go_wp2_with fail
  rw [← hw4]
  clear hw4
  have hc := sd_order SLB (some ⟨w3.heap.size + 1 + 1, 0, none⟩) 2 w4 HS4.out
  rw [sa3] at hc
  refine hc.mono ?_
  clear hc
  rintro r w5 ⟨pc, qc, rfl, _, hk5⟩
  have HK35 := hid (HK34.out.trans hk5)
  clear hk5 HS4
  obtain ⟨w6, hw6, hb1, hb2, hs6, hk6⟩ := box2 w5 #[.string ⟨#[98]⟩] #[.string ⟨#[97]⟩, .int .i64 0, .slice (some ⟨w5.heap.size, 0, none⟩) 1 1, .int .u32 0, .int .u32 0, .slice none 0 0] 9 43
  have HK36 := hid (HK35.out.trans hk6)
  have HS6 : Hid (SP w6 w6.heap.size (some ⟨w5.heap.size + 1, 0, none⟩) SLC) := hid (by
    refine .inr ⟨_, 0, rfl, lt_of_heap hb2, fun i x hx => ?_⟩
    match i, hx with
    | 0, hx => injection hx with hx; subst hx; exact ⟨cell_of hb2 (by rfl), cell_of hb2 (by rfl), cell_of hb2 (by rfl), cell_of hb2 (by rfl), by decide, by decide, _, 1, none, 0, cell_of hb2 (by rfl), cell_of hb2 (by rfl), by decide, one_str hb1 (lt_of_heap hb1), .inl rfl⟩
    | _ + 1, hx => simp [SLC] at hx)
  clear hb1 hb2 hk6 hs6
  go_wp2_with fail
  rw [← hw6]
  clear hw6
  have hc := sd_order SLC (some ⟨w5.heap.size + 1, 0, none⟩) 1 w6 HS6.out
  rw [sa4] at hc
  refine hc.mono ?_
  clear hc
  rintro r w7 ⟨pd, qd, rfl, _, hk7⟩
  have HK37 := hid (HK36.out.trans hk7)
  clear hk7 HS6
  have HK27 := hid (HK23.out.trans HK37.out)
  obtain ⟨d0, d1, d2, d3⟩ := HD.out _ HK27.out
  obtain ⟨n0, n1, n2⟩ := HN.out _ HK37.out
  have h1 := seq_dec ⟨#[122]⟩ ⟨#[122]⟩
  have h2 := seq_dec ⟨#[98]⟩ ⟨#[98]⟩
  have h3 := seq_dec ⟨#[97]⟩ ⟨#[97]⟩
  rw [decide_eq_true rfl] at h1 h2 h3
  go_wp2_with fail
  have hc := sd_ahead SLA (some ⟨xb + 1, 0, none⟩) 4 [3, 2, 1, 0] (some ⟨go, 0, none⟩) qa ⟨#[98]⟩ ⟨#[97]⟩ w7 (by decide) (HIP.out _ HK27.out) (HS1.out _ (HK2.out.trans HK27.out))
  rw [sa5] at hc
  refine hc.mono ?_
  clear hc
  rintro r w8 ⟨rfl, hk8⟩
  have HK28 := hid (HK27.out.trans hk8)
  clear hk8
  go_wp2_with fail
  have hc := sd_ahead SLA (some ⟨xb + 1, 0, none⟩) 4 [3, 2, 1, 0] (some ⟨go, 0, none⟩) qa ⟨#[97]⟩ ⟨#[120]⟩ w8 (by decide) (HIP.out _ HK28.out) (HS1.out _ (HK2.out.trans HK28.out))
  rw [sa6] at hc
  refine hc.mono ?_
  clear hc
  rintro r w9 ⟨rfl, hk9⟩
  have HK29 := hid (HK1.out.trans (HK2.out.trans (HK28.out.trans hk9)))
  clear hk9
  go_wp2
  go_ret
  exact ⟨rfl, HK29.out⟩
end Go.Proofs.Ytcbboaoakgngkaa

namespace Go.Proofs.Wide
/-- A great number: its sign and its size's two words. -/
structure WI where
  neg : Bool
  hi : Nat
  lo : Nat
def WI.mag (x : WI) : Nat := x.hi * 18446744073709551616 + x.lo
def WI.val (x : WI) : Int := if x.neg = true then -(x.mag : Int) else (x.mag : Int)
/-- Whether a number is in form. -/
def WI.form (x : WI) : Bool := decide (x.hi < 9223372036854775808) && (!x.neg || decide (x.mag ≠ 0))
def WI.fit (x : WI) : Prop := x.hi < 18446744073709551616 ∧ x.lo < 18446744073709551616
def cmpN (a b : Nat) : Int := if b < a then 1 else if a = b then 0 else -1
def cmpI (a b : Int) : Int := if b < a then 1 else if a = b then 0 else -1
/-- Which of two numbers is greater; nought where one isn't in form. -/
def cmpW (x y : WI) : Int := if x.form = true ∧ y.form = true then cmpI x.val y.val else 0
end Go.Proofs.Wide
namespace Go.Proofs.Ytcbboaoakgngkaa
open Go.RowKit Go.Proofs.Heap Go.Proofs.Wide

abbrev WV (x : WI) : Value := .agg #[.bool x.neg, .int .u64 (x.hi : Int), .int .u64 (x.lo : Int)]
abbrev WC (x : WI) : Array Value := #[.bool x.neg, .int .u64 (x.hi : Int), .int .u64 (x.lo : Int)]

theorem wraps64 (n : Int) (h₀ : 0 ≤ n) (h₁ : n < 2 ^ 64) : IntKind.u64.wrap n = n := by
  have : IntKind.u64.wrap n = n % 18446744073709551616 := by simp [IntKind.wrap, IntKind.bits, IntKind.signed]
  omega
theorem or_zero (a b : Nat) (ha : a < 18446744073709551616) (hb : b < 18446744073709551616) : ∃ z : Nat, bits .or .u64 (a : Int) (b : Int) = (z : Int) ∧ (z = 0 ↔ a = 0 ∧ b = 0) := by
  refine ⟨a ||| b, (bits_nat .u64 64 (by decide) wraps64 a b ha hb).2, ?_⟩
  exact Nat.or_eq_zero_iff

theorem form_zero {x : WI} (h : x.form = true) (hn : x.neg = true) : x.mag ≠ 0 := by
  unfold WI.form at h
  rw [hn] at h
  simp at h
  exact h.2

end Go.Proofs.Ytcbboaoakgngkaa

namespace Go.Proofs.Ytcbboaoakgngkaa
open Go.RowKit Go.Proofs.Heap Go.Proofs.Wide

abbrev Z3 : Array Value := #[.bool false, .int .u64 0, .int .u64 0]
def normW (ng : Bool) (hi lo : Nat) : WI := ⟨ng && decide (hi * 18446744073709551616 + lo ≠ 0), hi, lo⟩

end Go.Proofs.Ytcbboaoakgngkaa

namespace Go.Proofs.Ytcbboaoakgngkaa
open Go.RowKit Go.Proofs.Heap Go.Proofs.Wide

theorem neg_form (a : Nat) (ha : 0 < a) : WI.form ⟨true, 0, a⟩ = true := by
  unfold WI.form WI.mag
  simp
  omega
theorem normW_neg (a : Nat) (ha : 0 < a) : normW true 0 a = ⟨true, 0, a⟩ := by
  unfold normW
  have : decide (0 * 18446744073709551616 + a ≠ 0) = true := decide_eq_true (by omega)
  rw [this]; rfl

end Go.Proofs.Ytcbboaoakgngkaa

namespace Go.Proofs.Ytcbboaoakgngkaa
open Go.RowKit Go.Proofs.Heap Go.Proofs.Wide

theorem pos_form (a : Nat) : WI.form ⟨false, 0, a⟩ = true := by
  unfold WI.form
  simp
/-- A kind's greatest number. -/
def greatN (k : Int) : Nat := if k = 1 then 1 else if k = 2 then 127 else if k = 3 then 32767 else if k = 4 then 2147483647 else if k = 5 then 9223372036854775807 else if k = 6 then 255 else if k = 7 then 65535 else if k = 8 then 4294967295 else 18446744073709551615

end Go.Proofs.Ytcbboaoakgngkaa

namespace Go.Proofs.Ytcbboaoakgngkaa
open Go.RowKit Go.Proofs.Heap Go.Proofs.Wide

end Go.Proofs.Ytcbboaoakgngkaa

namespace Go.Proofs.Ytcbboaoakgngkaa
open Go.RowKit Go.Proofs.Heap Go.Proofs.Wide

def leastW (k : Int) : WI := if signK k = true then ⟨true, 0, greatN k + 1⟩ else ⟨false, 0, 0⟩
def greatW (k : Int) : WI := ⟨false, 0, greatN k⟩
theorem greatN_lt (k : Int) : greatN k < 18446744073709551616 := by
  unfold greatN
  repeat' split
  all_goals decide
theorem greatN_sign {k : Int} (h : signK k = true) : 0 < greatN k ∧ greatN k + 1 < 18446744073709551616 := by
  have := of_decide_eq_true h
  have hk : k = 2 ∨ k = 3 ∨ k = 4 ∨ k = 5 := by omega
  rcases hk with rfl | rfl | rfl | rfl <;> decide
theorem greatW_fit (k : Int) : (greatW k).fit := ⟨(by decide : (0 : Nat) < 18446744073709551616), greatN_lt k⟩
theorem leastW_fit (k : Int) : (leastW k).fit := by
  unfold leastW
  cases h : signK k
  · rw [if_neg (by simp)]; exact ⟨(by decide : (0 : Nat) < 18446744073709551616), (by decide : (0 : Nat) < 18446744073709551616)⟩
  · rw [if_pos rfl]; exact ⟨(by decide : (0 : Nat) < 18446744073709551616), (greatN_sign h).2⟩
theorem greatW_form (k : Int) : (greatW k).form = true := pos_form _
theorem leastW_form (k : Int) : (leastW k).form = true := by
  unfold leastW
  cases h : signK k
  · rw [if_neg (by simp)]; exact pos_form 0
  · rw [if_pos rfl]; exact neg_form _ (by omega)

theorem field_sign (s : ByteArray) (z : Int) (g : Bool) (w : World) : (Instr.field 163 (.agg #[.string s, .int .i64 z, .bool g]) 2).run Try.prog w = .ok (.bool g) w := by kernel_rfl

/-- Whether a number fits a kind. -/
def fitsB (k : Int) (x : WI) : Bool := kindB k && (x.form && (decide (0 ≤ cmpW x (leastW k)) && decide (cmpW x (greatW k) ≤ 0)))

end Go.Proofs.Ytcbboaoakgngkaa

namespace Go.Proofs.Ytcbboaoakgngkaa
open Go.RowKit Go.Proofs.Heap Go.Proofs.Sch Go.Proofs.Wide

/-- How many elements the fields have. -/
def sumN : List Fld → Nat
  | [] => 0
  | f :: r => f.count.toNat + sumN r
theorem sumN_append (a b : List Fld) : sumN (a ++ b) = sumN a + sumN b := by
  induction a with
  | nil => simp [sumN]
  | cons x a ih => simp [sumN, ih]; omega
theorem layC_zero {fs : List Fld} (h : layC fs = 0) : fs.length ≤ 8 ∧ (∀ f ∈ fs, okF f) := by
  unfold layC at h
  by_cases h1 : 8 < fs.length
  · rw [if_pos h1] at h; omega
  · rw [if_neg h1] at h
    by_cases h2 : ∀ f ∈ fs, okF f
    · exact ⟨by omega, h2⟩
    · rw [if_neg h2] at h; omega
theorem sumN_next {fs : List Fld} {k : Nat} {f : Fld} (h : fs[k]? = some f) : sumN (fs.take (k + 1)) = sumN (fs.take k) + f.count.toNat := by
  rw [take_next h, sumN_append]; simp [sumN]
theorem sumN_le (fs : List Fld) (h : ∀ f ∈ fs, okF f) : sumN fs ≤ 8 * fs.length := by
  induction fs with
  | nil => simp [sumN]
  | cons f r ih =>
    have h1 := (h f (by simp)).2
    have h2 := ih (fun g hg => h g (by simp [hg]))
    simp only [sumN, List.length_cons]
    omega

end Go.Proofs.Ytcbboaoakgngkaa

namespace Go.Proofs.Sch
open Go.RowKit Go.Proofs.Heap Go.Proofs.Wide
def IntAt (w : World) (b o : Nat) (x : WI) : Prop := w.cell? ⟨b, o, none⟩ = some (.bool x.neg) ∧ w.cell? ⟨b, o + 1, none⟩ = some (.int .u64 (x.hi : Int)) ∧ w.cell? ⟨b, o + 2, none⟩ = some (.int .u64 (x.lo : Int))
abbrev XP := RowP 3 IntAt
theorem XP.low {w w' : World} {B : Nat} {p : Option Addr} {l : List WI} (h : XP w B p l) (hl : Low B w w') : XP w' B p l :=
  RowP.imp h (Nat.le_refl _) fun b o x hb hx => ⟨by rw [hl.cell hb]; exact hx.1, by rw [hl.cell hb]; exact hx.2.1, by rw [hl.cell hb]; exact hx.2.2⟩
theorem XP.mono {w : World} {B B' : Nat} {p : Option Addr} {l : List WI} (h : XP w B p l) (hB : B ≤ B') : XP w B' p l := RowP.imp h hB fun _ _ _ _ hx => hx
theorem XP.at {w : World} {B : Nat} {p : Option Addr} {l : List WI} (h : XP w B p l) {i : Nat} {f : WI} (hi : l[i]? = some f) : ∃ b off, p = some ⟨b, off, none⟩ ∧ b < B ∧ w.cell? ⟨b, off + i * 3, none⟩ = some (.bool f.neg) ∧ w.cell? ⟨b, off + i * 3 + 1, none⟩ = some (.int .u64 (f.hi : Int)) ∧ w.cell? ⟨b, off + i * 3 + 2, none⟩ = some (.int .u64 (f.lo : Int)) := by
  rcases h with rfl | ⟨b, off, hp, hb, hc⟩
  · simp at hi
  · obtain ⟨h1, h2, h3⟩ := hc i f hi
    exact ⟨b, off, hp, hb, h1, h2, h3⟩
/-- The rest of a row. -/
theorem XP.drop {w : World} {B b off : Nat} {l : List WI} (h : XP w B (some ⟨b, off, none⟩) l) (n : Nat) : XP w B (some ⟨b, off + n * 3, none⟩) (l.drop n) := by
  rcases h with rfl | ⟨b', off', hp, hb, hc⟩
  · exact .inl (by simp)
  · injection hp with hp
    injection hp with h1 h2
    subst h1; subst h2
    refine .inr ⟨_, _, rfl, hb, fun i x hx => ?_⟩
    rw [List.getElem?_drop] at hx
    have := hc (n + i) x hx
    rwa [show off + (n + i) * 3 = off + n * 3 + i * 3 by omega] at this
end Go.Proofs.Sch
namespace Go.Proofs.Ytcbboaoakgngkaa
open Go.RowKit Go.Proofs.Heap Go.Proofs.Sch Go.Proofs.Wide

/-- Whether all numbers fit their fields' kinds. -/
def fitRun : List Fld → List WI → Bool
  | [], _ => true
  | f :: r, vs => (vs.take f.count.toNat).all (fitsB f.kind) && fitRun r (vs.drop f.count.toNat)
/-- The error of a value. -/
def fitC (fs : List Fld) (vs : List WI) : Nat := if layC fs = 0 then (if vs.length = sumN fs then (if fitRun fs vs = true then 0 else 3) else 4) else layC fs

end Go.Proofs.Ytcbboaoakgngkaa

namespace Go.Proofs.Ytcbboaoakgngkaa
open Go.RowKit Go.Proofs.Heap Go.Proofs.Sch

/-- An element's cells. -/
def ecl (e : Int × Nat) : List Value := [.int .i64 e.1, iV e.2]
/-- The elements of a field that begins at a. -/
def eAdd (k : Int) (a sz n : Nat) : List (Int × Nat) := (List.range n).map (fun j => (k, a + sz * j))
def eStep (st : Nat × List (Int × Nat)) (f : Fld) : Nat × List (Int × Nat) := (upN st.1 (szN f.kind) + szN f.kind * f.count.toNat, st.2 ++ eAdd f.kind (upN st.1 (szN f.kind)) (szN f.kind) f.count.toNat)
/-- All elements of fields. -/
def eRun (fs : List Fld) : List (Int × Nat) := (fs.foldl eStep (0, [])).2

theorem eAdd_zero (k : Int) (a sz : Nat) : eAdd k a sz 0 = [] := rfl
theorem eAdd_next (k : Int) (a sz n : Nat) : eAdd k a sz (n + 1) = eAdd k a sz n ++ [(k, a + sz * n)] := by
  unfold eAdd; rw [List.range_succ, List.map_append]; rfl
theorem eAdd_len (k : Int) (a sz n : Nat) : (eAdd k a sz n).length = n := by simp [eAdd]
theorem eFold_at : ∀ (fs : List Fld) (a g : Nat) (es : List (Int × Nat)) (ss : List Nat), (fs.foldl eStep (a, es)).1 = (fs.foldl pStep (a, g, ss)).1
  | [], _, _, _, _ => rfl
  | f :: r, a, g, es, ss => by
    rw [List.foldl_cons, List.foldl_cons]
    exact eFold_at r _ _ _ _
theorem eRun_next {fs : List Fld} {k : Nat} {f : Fld} (h : fs[k]? = some f) : eRun (fs.take (k + 1)) = eRun (fs.take k) ++ eAdd f.kind (upN (pRun (fs.take k)).1 (szN f.kind)) (szN f.kind) f.count.toNat := by
  unfold eRun pRun
  rw [take_next h, List.foldl_append, List.foldl_cons, List.foldl_nil]
  unfold eStep
  rw [← eFold_at (fs.take k) 0 1 [] []]
  rfl
theorem eRun_len : ∀ (fs : List Fld), (eRun fs).length = sumN fs := by
  have key : ∀ (fs : List Fld) (st : Nat × List (Int × Nat)), (fs.foldl eStep st).2.length = st.2.length + sumN fs := by
    intro fs
    induction fs with
    | nil => intro st; simp [sumN]
    | cons f r ih =>
      intro st
      rw [List.foldl_cons, ih]
      simp only [eStep, List.length_append, eAdd_len, sumN]
      omega
  intro fs
  have := key fs (0, [])
  simpa [eRun] using this

/-- The multiple that is met first. -/
theorem upN_meet {a s x : Nat} (hs : 1 ≤ s) (h1 : a ≤ x) (h2 : x ≤ upN a s) (h3 : x % s = 0) : x = upN a s := by
  have hd := Nat.div_add_mod (a + s - 1) s
  have hm := Nat.mod_lt (a + s - 1) (show 0 < s by omega)
  have hx := Nat.div_add_mod x s
  have e : upN a s = s * ((a + s - 1) / s) := by unfold upN; rw [Nat.mul_comm]
  rw [e] at h2 ⊢
  rw [h3] at hx
  generalize (a + s - 1) / s = q at *
  generalize x / s = t at *
  have h4 : s * t < s * q + s → t < q + 1 := fun h => Nat.lt_of_mul_lt_mul_left (a := s) (by rw [Nat.mul_add]; omega)
  have h5 : s * q < s * t + s → q < t + 1 := fun h => Nat.lt_of_mul_lt_mul_left (a := s) (by rw [Nat.mul_add]; omega)
  have : t = q := by
    have h6 := h4 (by omega)
    have h7 := h5 (by omega)
    omega
  subst this
  omega
theorem upN_dvd (a s : Nat) : upN a s % s = 0 := by unfold upN; exact Nat.mul_mod_left ..
theorem upN_ge {a s : Nat} (hs : 1 ≤ s) : a ≤ upN a s := by
  have hd := Nat.div_add_mod (a + s - 1) s
  have hm := Nat.mod_lt (a + s - 1) (show 0 < s by omega)
  unfold upN
  rw [Nat.mul_comm]
  omega

/-- The reference's two rows under way: the elements, where fields begin. -/
structure LY (w : World) (v6 v7 : Value) (es : List (Int × Nat)) (ss : List Nat) (y : World) : Prop where
  keep : Keep (fun _ => False) w y
  o6 : y.ownsRow w.heap.size 139 2 v6 es.length (es.flatMap ecl)
  o7 : y.ownsRow w.heap.size 3 1 v7 ss.length (ss.map iV)
  dis : ∀ g, v6.ownBlock = some g → v7.ownBlock = some g → False
/-- A field's box beside them. -/
structure LB (v6 v7 : Value) (bx : Nat) (f : Fld) (y : World) : Prop where
  box : y.heap[bx]? = some (.cells #[.string f.name, .int .i64 f.kind, .int .i64 f.count] 69 (0, 0))
  n6 : v6.ownBlock ≠ some bx
  n7 : v7.ownBlock ≠ some bx

section
variable {w y y' : World} {v6 v7 v' : Value} {es : List (Int × Nat)} {ss : List Nat} {bx : Nat} {f : Fld}
theorem LY.keep0 (h : LY w v6 v7 es ss y) (hk : Keep (fun _ => False) y y') : LY w v6 v7 es ss y' :=
  ⟨h.keep.trans hk, owns_keep h.o6 (fun q hq => hk.block q (h.o6.lt q hq).2 id), owns_keep h.o7 (fun q hq => hk.block q (h.o7.lt q hq).2 id), h.dis⟩
theorem LB.keep0 (h : LB v6 v7 bx f y) (hk : Keep (fun _ => False) y y') : LB v6 v7 bx f y' := ⟨hk.get h.box id, h.n6, h.n7⟩
theorem LY.newBox (h : LY w v6 v7 es ss y) (f : Fld) : LB v6 v7 y.heap.size f (y.alloc (.cells #[.string f.name, .int .i64 f.kind, .int .i64 f.count] 69)) :=
  ⟨heap_alloc_new y _, fun e => by have := (h.o6.lt _ e).2; omega, fun e => by have := (h.o7.lt _ e).2; omega⟩
theorem LY.app6 (h : LY w v6 v7 es ss y) (hb : LB v6 v7 bx f y) {e : Int × Nat} (hown : y'.ownsRow w.heap.size 139 2 v' (es.length + 1) (es.flatMap ecl ++ ecl e)) (hg : y.grownBy y' v6.ownBlock) (ha : v'.ownBlock = v6.ownBlock ∨ v'.ownBlock = some y.heap.size) :
    LY w v' v7 (es ++ [e]) ss y' ∧ LB v' v7 bx f y' := by
  have hk : Keep (fun q => v6.ownBlock = some q) y y' := (Keep.refl _ y).grown hg (fun k hk => .inr hk)
  refine ⟨⟨h.keep.trans' hk (fun i hi e => by have := (h.o6.lt _ e).1; omega), by simpa using hown, owns_keep h.o7 (fun q hq => hk.block q (h.o7.lt q hq).2 (fun e => h.dis q e hq)), fun g h1 h2 => ?_⟩, hk.get hb.box hb.n6, fun e => ?_, hb.n7⟩
  · rcases ha with ha | ha
    · exact h.dis g (ha ▸ h1) h2
    · rw [ha] at h1
      injection h1 with h1
      have := (h.o7.lt g h2).2
      omega
  · rcases ha with ha | ha
    · exact hb.n6 (ha ▸ e)
    · rw [ha] at e
      injection e with e
      have := lt_of_heap hb.box
      omega
theorem LY.app7 (h : LY w v6 v7 es ss y) (hb : LB v6 v7 bx f y) {a : Nat} (hown : y'.ownsRow w.heap.size 3 1 v' (ss.length + 1) (ss.map iV ++ [iV a])) (hg : y.grownBy y' v7.ownBlock) (ha : v'.ownBlock = v7.ownBlock ∨ v'.ownBlock = some y.heap.size) :
    LY w v6 v' es (ss ++ [a]) y' ∧ LB v6 v' bx f y' := by
  have hk : Keep (fun q => v7.ownBlock = some q) y y' := (Keep.refl _ y).grown hg (fun k hk => .inr hk)
  refine ⟨⟨h.keep.trans' hk (fun i hi e => by have := (h.o7.lt _ e).1; omega), owns_keep h.o6 (fun q hq => hk.block q (h.o6.lt q hq).2 (fun e => h.dis q hq e)), by simpa using hown, fun g h1 h2 => ?_⟩, hk.get hb.box hb.n7, hb.n6, fun e => ?_⟩
  · rcases ha with ha | ha
    · exact h.dis g h1 (ha ▸ h2)
    · rw [ha] at h2
      injection h2 with h2
      have := (h.o6.lt g h1).2
      omega
  · rcases ha with ha | ha
    · exact hb.n7 (ha ▸ e)
    · rw [ha] at e
      injection e with e
      have := lt_of_heap hb.box
      omega
/-- A block more for what is appended. -/
theorem Keep.grown_alloc {w y y' : World} {o : Obj} {row : Option Nat} (hg : (y.alloc o).grownBy y' row) (hr : ∀ k, row = some k → w.heap.size ≤ k) (hk : Keep (fun _ => False) w y) : Keep (fun _ => False) w y' :=
  (hk.alloc o).grown hg (fun k h => .inl (hr k h))
end
theorem info_elem : (Try.prog.info? 139).map (fun i => (i.zero, i.size, i.bytes)) = some (some (.agg #[.int .i64 0, .int .i64 0]), 2, 16) := by kernel_rfl
end Go.Proofs.Ytcbboaoakgngkaa

namespace Go.Proofs.Ytcbboaoakgngkaa
open Go.RowKit Go.Proofs.Heap

theorem sizeK_out {k : Int} (h : k < 1 ∨ 10 < k) : sizeK k = 0 := by
  unfold sizeK
  rw [if_neg (by omega), if_neg (by omega), if_neg (by omega), if_neg (by omega)]

abbrev NB : Array Value := #[.int .i64 0, .int .i64 1, .int .i64 1, .int .i64 2, .int .i64 4, .int .i64 8, .int .i64 1, .int .i64 2, .int .i64 4, .int .i64 8, .int .i64 8]

set_option maxRecDepth 20000 in
set_option maxHeartbeats 2000000 in
theorem r_bytes (k : Int) (w : World) : Calls Try.prog 82 #[.int .i64 k] w fun r w' => r = .returned (.int .i64 (sizeK k)) ∧ Keep (fun _ => False) w w' := by
  go_enter Try.func82, Try.ntmps82
  by_cases h1 : k < 1
  · have g1 : decide (k < 1) = true := decide_eq_true h1
    have G := hid (sizeK_out (.inl h1))
    clear h1
    go_wp2
    go_ret
    exact ⟨by rw [G.out]; rfl, Keep.refl _ _⟩
  have g1 : decide (k < 1) = false := decide_eq_false h1
  by_cases h2 : 10 < k
  · have g2 : decide (10 < k) = true := decide_eq_true h2
    have G := hid (sizeK_out (.inr h2))
    clear h1 h2
    go_wp2
    go_ret
    exact ⟨by rw [G.out]; rfl, Keep.refl _ _⟩
  have g2 : decide (10 < k) = false := decide_eq_false h2
  have hb := heap_alloc_new w (.cells NB 155)
  have HK := hid ((Keep.refl (fun _ => False) w).alloc (.cells NB 155))
  have HB := hid hb
  clear hb
  have hc : k = 1 ∨ k = 2 ∨ k = 3 ∨ k = 4 ∨ k = 5 ∨ k = 6 ∨ k = 7 ∨ k = 8 ∨ k = 9 ∨ k = 10 := by omega
  clear h1 h2
  go_upto_region 4 with fail
  generalize w.alloc (.cells NB 155) = w1 at *
  generalize w.heap.size = b at *
  clear g1 g2
  rcases hc with rfl | rfl | rfl | rfl | rfl | rfl | rfl | rfl | rfl | rfl
  · have c : w1.cell? ⟨b, 1, none⟩ = some (.int .i64 1) := cell_of HB.out (by rfl)
    go_wp2
    go_ret
    exact ⟨by rfl, HK.out⟩
  · have c : w1.cell? ⟨b, 2, none⟩ = some (.int .i64 1) := cell_of HB.out (by rfl)
    go_wp2
    go_ret
    exact ⟨by rfl, HK.out⟩
  · have c : w1.cell? ⟨b, 3, none⟩ = some (.int .i64 2) := cell_of HB.out (by rfl)
    go_wp2
    go_ret
    exact ⟨by rfl, HK.out⟩
  · have c : w1.cell? ⟨b, 4, none⟩ = some (.int .i64 4) := cell_of HB.out (by rfl)
    go_wp2
    go_ret
    exact ⟨by rfl, HK.out⟩
  · have c : w1.cell? ⟨b, 5, none⟩ = some (.int .i64 8) := cell_of HB.out (by rfl)
    go_wp2
    go_ret
    exact ⟨by rfl, HK.out⟩
  · have c : w1.cell? ⟨b, 6, none⟩ = some (.int .i64 1) := cell_of HB.out (by rfl)
    go_wp2
    go_ret
    exact ⟨by rfl, HK.out⟩
  · have c : w1.cell? ⟨b, 7, none⟩ = some (.int .i64 2) := cell_of HB.out (by rfl)
    go_wp2
    go_ret
    exact ⟨by rfl, HK.out⟩
  · have c : w1.cell? ⟨b, 8, none⟩ = some (.int .i64 4) := cell_of HB.out (by rfl)
    go_wp2
    go_ret
    exact ⟨by rfl, HK.out⟩
  · have c : w1.cell? ⟨b, 9, none⟩ = some (.int .i64 8) := cell_of HB.out (by rfl)
    go_wp2
    go_ret
    exact ⟨by rfl, HK.out⟩
  · have c : w1.cell? ⟨b, 10, none⟩ = some (.int .i64 8) := cell_of HB.out (by rfl)
    go_wp2
    go_ret
    exact ⟨by rfl, HK.out⟩
end Go.Proofs.Ytcbboaoakgngkaa
