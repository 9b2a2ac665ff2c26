/- What is proved: the law EntityExact in range returns true, whatever the deeds. -/
import Derived.Test.YtmckidhedogcaaaEntExactOne
import Derived.Test.YtmckidhedogcaaaEntExactLaw
import Derived.Test.YtmckidhedogcaaaEntRef5
import Derived.Test.YtmckidhedogcaaaEntRef6
import Derived.Deep.Cut
import Derived.Deep.CutRange
import Derived.Deep.CutBlock
namespace Go.Proofs.Ytmckidhedogcaaa
open Go.RowKit Go.Proofs.Heap Go.Proofs.HeapLaw

/-- The law's state: the index, the document's index, all handles answered. -/
structure ES (w wr : World) (b u n most : Nat) (S : List Nat) (G : Nat → Nat) (L : Nat → Bool) (F : List Nat) (RG : Nat → Nat) (RL RR : Nat → Bool) (av : Value) (al : List Nat) : Prop where
  x : XT wr S b n most G L F
  r : RI most n RG RL RR wr u
  a : wr.ownsRow w.heap.size 22 1 av al.length (al.map eV)
  lo : ∀ s ∈ S, w.heap.size ≤ s
  ulo : w.heap.size ≤ u
  uS : u ∉ S
  aS : ∀ q, av.ownBlock = some q → q ∉ S ∧ q ≠ u
  keep : Keep (fun _ => False) w wr

section
variable {w wr w' : World} {b b' u n most : Nat} {S S' : List Nat} {G G' : Nat → Nat} {L L' : Nat → Bool} {F F' : List Nat} {RG RG' : Nat → Nat} {RL RL' RR RR' : Nat → Bool} {av : Value} {al : List Nat}

theorem ES.turn (h : ES w wr b u n most S G L F RG RL RR av al) (hX : XT w' S' b' n most G' L' F') (hS : ∀ k ∈ S', k ∈ S ∨ wr.heap.size ≤ k) (hk : Keep (fun k => k ∈ S) wr w') : ES w w' b' u n most S' G' L' F' RG RL RR av al := by
  have hul := h.r.lt
  have hsz := h.keep.size
  refine ⟨hX, h.r.keep hk h.uS, owns_keep h.a (fun q hq => hk.block q (h.a.lt q hq).2 (h.aS q hq).1), fun s hs => ?_, h.ulo, fun hx => ?_, fun q hq => ⟨fun hx => ?_, (h.aS q hq).2⟩, keep_new h.keep hk h.lo⟩
  · rcases hS s hs with e | e
    · exact h.lo s e
    · omega
  · rcases hS _ hx with e | e
    · exact h.uS e
    · omega
  · rcases hS _ hx with e | e
    · exact (h.aS q hq).1 e
    · have := (h.a.lt q hq).2; omega

theorem ES.keep0 (h : ES w wr b u n most S G L F RG RL RR av al) (hk : Keep (fun _ => False) wr w') : ES w w' b u n most S G L F RG RL RR av al :=
  h.turn (h.x.keep0 hk) (fun _ hk => .inl hk) (hk.mono (fun _ _ h => h.elim))

theorem ES.ref (h : ES w wr b u n most S G L F RG RL RR av al) (hr : RI most n RG' RL' RR' w' u) (hk : Keep (fun k => k = u) wr w') : ES w w' b u n most S G L F RG' RL' RR' av al :=
  ⟨h.x.keep hk (fun _ hk e => h.uS (e ▸ hk)), hr, owns_keep h.a (fun q hq => hk.block q (h.a.lt q hq).2 (h.aS q hq).2), h.lo, h.ulo, h.uS, h.aS, keep_new h.keep hk (fun k e => by have := h.ulo; omega)⟩

theorem ES.app (h : ES w wr b u n most S G L F RG RL RR av al) {e : Nat} {o : Obj} {av' : Value} (ho : w'.ownsRow w.heap.size 22 1 av' (al.length + 1) (al.map eV ++ [eV e])) (hg : (wr.alloc o).grownBy w' av.ownBlock)
    (hat : av'.ownBlock = av.ownBlock ∨ av'.ownBlock = some (wr.alloc o).heap.size) : ES w w' b u n most S G L F RG RL RR av' (al ++ [e]) := by
  have hk : Keep (fun k => av.ownBlock = some k) wr w' := ((Keep.refl _ wr).alloc o).grown hg (fun k hk => .inr hk)
  have hul := h.r.lt
  refine ⟨h.x.keep hk (fun k hk e => (h.aS k e).1 hk), h.r.keep hk (fun e => (h.aS u e).2 rfl), by simpa using ho, h.lo, h.ulo, h.uS, fun q hq => ?_, keep_new h.keep hk (fun k e => (h.a.lt k e).1)⟩
  rcases hat with e | e
  · exact h.aS q (e ▸ hq)
  · rw [e] at hq
    injection hq with hq
    simp at hq
    refine ⟨fun hx => ?_, by omega⟩
    have := h.x.lt q hx
    omega
end

theorem xt_clone {w : World} {S : List Nat} {b n most : Nat} {G : Nat → Nat} {L : Nat → Bool} {F : List Nat} (h : XT w S b n most G L F) :
    Calls Try.prog 20 #[.pointer (some ⟨b, 0, none⟩)] w fun r w' => ∃ b' S', r = .returned (.pointer (some ⟨b', 0, none⟩)) ∧ XT w' S' b' n most G L F ∧ (∀ k ∈ S', w.heap.size ≤ k) ∧ Keep (fun _ => False) w w' := by
  obtain ⟨g, c, p, cp, q, cq, h, rfl⟩ := h
  refine (x_clone h).mono ?_
  rintro r w' ⟨b', g', c', p', cp', q', cq', rfl, h', h1, h2, h3, h4, hk⟩
  refine ⟨b', [b', g', p', q'], rfl, ⟨g', c', p', cp', q', cq', h', rfl⟩, ?_, hk⟩
  intro k hk
  simp at hk
  omega

theorem xt_same {w : World} {S S2 : List Nat} {b b2 n most : Nat} {G G2 : Nat → Nat} {L L2 : Nat → Bool} {F F2 : List Nat} (h : XT w S b n most G L F) (h2 : XT w S2 b2 n most G2 L2 F2) :
    Calls Try.prog 21 #[.pointer (some ⟨b, 0, none⟩), .pointer (some ⟨b2, 0, none⟩)] w fun r w' => ∃ x : Bool, r = .returned (.bool x) ∧ (x = true ↔ (∀ i, i < n + 1 → G i = G2 i) ∧ ∀ i, i < n + 1 → L i = L2 i) ∧ Keep (fun _ => False) w w' := by
  obtain ⟨g, c, p, cp, q, cq, h, rfl⟩ := h
  obtain ⟨g', c', p', cp', q', cq', h2, rfl⟩ := h2
  exact x_same h h2

/-- A block beside the law's state. -/
structure EA (wr : World) (u : Nat) (S : List Nat) (av : Value) (q : Nat) (o : Obj) : Prop where
  get : wr.heap[q]? = some o
  S : q ∉ S
  u : q ≠ u
  a : av.ownBlock ≠ some q

section
variable {wr w' : World} {u q : Nat} {S S' : List Nat} {av av' : Value} {o : Obj}
theorem EA.turn (h : EA wr u S av q o) (hS : ∀ k ∈ S', k ∈ S ∨ wr.heap.size ≤ k) (hk : Keep (fun k => k ∈ S) wr w') : EA w' u S' av q o := by
  have hlt := lt_of_heap h.get
  refine ⟨hk.get h.get h.S, fun hx => ?_, h.u, h.a⟩
  rcases hS _ hx with e | e
  · exact h.S e
  · omega
theorem EA.keep0 (h : EA wr u S av q o) (hk : Keep (fun _ => False) wr w') : EA w' u S av q o := ⟨hk.get h.get id, h.S, h.u, h.a⟩
theorem EA.ref (h : EA wr u S av q o) (hk : Keep (fun k => k = u) wr w') : EA w' u S av q o := ⟨hk.get h.get h.u, h.S, h.u, h.a⟩
theorem EA.app (h : EA wr u S av q o) {o1 : Obj} (hg : (wr.alloc o1).grownBy w' av.ownBlock)
    (hat : av'.ownBlock = av.ownBlock ∨ av'.ownBlock = some (wr.alloc o1).heap.size) : EA w' u S av' q o := by
  have hlt := lt_of_heap h.get
  have hk : Keep (fun k => av.ownBlock = some k) wr w' := ((Keep.refl _ wr).alloc o1).grown hg (fun k hk => .inr hk)
  refine ⟨hk.get h.get h.a, h.S, h.u, fun hq => ?_⟩
  rcases hat with e | e
  · exact h.a (e ▸ hq)
  · rw [e] at hq
    injection hq with hq
    simp at hq
    omega
end

/-- An act of three cells. -/
structure A3 (w : World) (b off : Nat) (K I : Int) (E : Nat) : Prop where
  c0 : w.cell? ⟨b, off, none⟩ = some (.int .i64 K)
  c1 : w.cell? ⟨b, off + 1, none⟩ = some (.int .i64 I)
  c2 : w.cell? ⟨b, off + 2, none⟩ = some (eV E)
  lt : E < 18446744073709551616

set_option maxRecDepth 100000 in
set_option maxHeartbeats 8000000 in
theorem exact_in (n most : Nat) (p : Option Addr) (len cap : Nat) (w : World) (n1 : 1 ≤ n) (n2 : n ≤ 256) (m1 : 1 ≤ most) (m2 : most ≤ 65535)
    (hz : len = 0 ∨ ∃ b off, p = some ⟨b, off, none⟩ ∧ b < w.heap.size ∧ ∀ i, i < len → ∃ K I E, A3 w b (off + i * 3) K I E) :
    Calls Try.prog 6 #[.int .i64 (n : Int), .int .i64 (most : Int), .slice p len cap] w fun r w' => r = .returned (.bool true) ∧ Below w.heap.size w w' := by
  have hzr := zero_ref
  obtain ⟨i0, hi0, hz0, hz1, hz2⟩ := info_parts info_u64
  have HZ := hid hz
  clear hz
  go_enter Try.func6, Try.ntmps6
  go_wp2_with fail
  refine (awake_true w).mono ?_
  rintro r w1 ⟨rfl, hk1⟩
  have HK1 := hid hk1
  clear hk1
  go_wp2_with fail
  refine (xt_new n most w1 n1 n2 m1 m2 _ _ rfl rfl).mono ?_
  rintro r w2 ⟨S, b, rfl, h2, hS, hk2⟩
  have HX := hid h2; have HS := hid hS; have HK2 := hid (HK1.out.trans hk2)
  clear h2 hS hk2
  go_wp2_with fail
  refine (r_new n most w2 n1 n2).mono ?_
  rintro r w3 ⟨rfl, hk3⟩
  have hs1 := HK1.out.size
  have HX3 := hid (HX.out.keep0 hk3); have HK3 := hid (HK2.out.trans hk3)
  have hs3 := HK3.out.size
  have hU := RI.boxed (g := 0) (n := 0) (RG := fun _ => 0) (RL := fun _ => false) (RR := fun _ => false) w3
  obtain ⟨w4, hst, hU4, hk4⟩ := ref_store hU most n (fun i => if 1 ≤ i ∧ i ≤ n then 1 else 0) (fun _ => false) (fun _ => false)
  have hku : Keep (fun _ => False) w3 (w3.alloc (.cells (rC 0 0 (fun _ => 0) (fun _ => false) (fun _ => false)) 52)) := (Keep.refl _ w3).alloc _
  have hs4 := hk4.size
  have hx4 := (HX3.out.keep0 hku).keep hk4 (fun k hk e => by have := HX3.out.lt k hk; omega)
  have hes : ES w (w4.alloc (.cells #[] 22)) b w3.heap.size n most S G0 L0 (List.range' 1 n) (rgOf n most G0) L0 (rrOf n most G0) (.slice (some ⟨w4.heap.size, 0, none⟩) 0 0) [] := by
    have hul := hU4.lt
    rw [rg_new m1, rr_new m1]
    refine ⟨hx4.keep0 ((Keep.refl _ w4).alloc _), hU4.keep ((Keep.refl (fun _ => False) w4).alloc _) id, owns_fresh (e := 22) (base := w.heap.size) (xs := []) (n := 0) w4 (by simp at hs4; omega) rfl (by unfold maxLen; omega), fun s hs => ?_, by omega, fun hx => absurd (HX3.out.lt _ hx) (by omega), fun q hq => ?_, (keep_new (HK3.out.trans hku) hk4 (fun k e => by omega)).alloc _⟩
    · have := HS.out s hs; omega
    · simp [Value.ownBlock] at hq
      refine ⟨fun hx => ?_, by omega⟩
      have := hx4.lt q hx; omega
  have HES : Hid (∃ S F, ES w (w4.alloc (.cells #[] 22)) b w3.heap.size n most S G0 L0 F (rgOf n most G0) L0 (rrOf n most G0) (.slice (some ⟨w4.heap.size, 0, none⟩) 0 0) []) := ⟨S, _, hes⟩
  clear hes hx4 hU hU4 hk4 hku hs4 hk3 HX HX3 HS HK1 HK2 HK3
  go_wp2_with fail
  have hu0 : w.heap.size ≤ w3.heap.size := hs3
  clear hs1 hs3 hst
  generalize w3.heap.size = u at *
  go_loopw [7, 11, 12] (fun x av i wr => ∃ (k b : Nat) (S : List Nat) (G : Nat → Nat) (L : Nat → Bool) (F : List Nat) (al : List Nat), k ≤ 200 ∧ i = .int .i64 k ∧ x = .pointer (some ⟨b, 0, none⟩) ∧ al.length ≤ k ∧ (∀ e ∈ al, e < 18446744073709551616) ∧ ES w wr b u n most S G L F (rgOf n most G) L (rrOf n most G) av al) (fun _ _ i _ => 200 - (intOf i).toNat)
  case atStart =>
    obtain ⟨S, F, h⟩ := HES.out
    exact ⟨0, b, S, _, _, F, [], by omega, rfl, rfl, by simp, (fun e he => by cases he), h⟩
  case round =>
    clear HES
    obtain ⟨k, b, S, G, L, F, al, hk, rfl, rfl, hal, h64, hE⟩ := hrel
    have HE := hid hE; have H64 := hid h64
    obtain ⟨ap, ac, rfl⟩ := owns_val hE.a
    clear hE h64
    by_cases hlt : k < len ∧ k < 200
    · obtain ⟨hl1, hl2⟩ := hlt
      obtain ⟨tb, toff, rfl, htb, htc⟩ : ∃ tb off, p = some ⟨tb, off, none⟩ ∧ tb < w.heap.size ∧ ∀ i, i < len → ∃ K I E, A3 w tb (off + i * 3) K I E := by
        rcases HZ.out with h | h
        · omega
        · exact h
      obtain ⟨K, I, E, hact⟩ := htc k hl1
      have ht0 : wr.cell? ⟨tb, toff + k * 3, none⟩ = some (.int .i64 K) := by rw [World.cell?_of_block (a := ⟨tb, toff + k * 3, none⟩) (HE.out.keep.block tb htb (fun h => h))]; exact hact.c0
      have ht1 : wr.cell? ⟨tb, toff + k * 3 + 1, none⟩ = some (.int .i64 I) := by rw [World.cell?_of_block (a := ⟨tb, toff + k * 3 + 1, none⟩) (HE.out.keep.block tb htb (fun h => h))]; exact hact.c1
      have ht2 : wr.cell? ⟨tb, toff + k * 3 + 2, none⟩ = some (eV E) := by rw [World.cell?_of_block (a := ⟨tb, toff + k * 3 + 2, none⟩) (HE.out.keep.block tb htb (fun h => h))]; exact hact.c2
      have hE64 := hact.lt
      have hin2 : (0 : Int) ≤ (k : Int) ∧ (k : Int) < (len : Int) := ⟨by omega, by omega⟩
      clear htc hact
      have hact0 := heap_alloc_new wr (.cells #[.int .i64 K, .int .i64 I, .int .u64 (E : Int)] 56)
      have HE1 := hid (HE.out.keep0 ((Keep.refl _ wr).alloc (.cells #[.int .i64 K, .int .i64 I, .int .u64 (E : Int)] 56)))
      have ha0S : wr.heap.size ∉ S := fun h => absurd (HE.out.x.lt wr.heap.size h) (Nat.lt_irrefl _)
      have ha0a : (Value.slice ap al.length ac).ownBlock ≠ some wr.heap.size := fun h => absurd (HE.out.a.lt _ h).2 (Nat.lt_irrefl _)
      have ha0u := Nat.ne_of_gt HE.out.r.lt
      have HA0 := hid (EA.mk hact0 ha0S ha0u ha0a)
      clear hact0 ha0S ha0u ha0a
      go_upto_region 14 with fail
      generalize wr.alloc (.cells #[.int .i64 K, .int .i64 I, .int .u64 (E : Int)] 56) = wa at *
      generalize hgz : wr.heap.size = az at *
      clear ht0 ht1 ht2 HE hgz
      have hc0 : wa.cell? ⟨az, 0, none⟩ = some (.int .i64 K) := cell_of HA0.out.get (by simp)
      have hc1 : wa.cell? ⟨az, 1, none⟩ = some (.int .i64 I) := cell_of HA0.out.get (by simp)
      have hc2 : wa.cell? ⟨az, 2, none⟩ = some (eV E) := cell_of HA0.out.get (by simp)
      obtain ⟨B, hB⟩ : ∃ B : Bool, B = (decide (0 < al.length) && (K == 4)) := ⟨_, rfl⟩
      go_cut [122] from 99 to 295 (fun c wx => c = .bool B ∧ wa = wx)
      case first =>
        as_aux_lemma =>
          by_cases h0 : 0 < al.length
          · have f1 : decide ((0 : Int) < (al.length : Int)) = true := decide_eq_true (by omega)
            have f2 : decide (0 < al.length) = true := decide_eq_true h0
            rw [f2, Bool.true_and] at hB
            subst hB
            go_wp2
            go_meet
            case rel => exact ⟨rfl, rfl⟩
          · have f1 : decide ((0 : Int) < (al.length : Int)) = false := decide_eq_false (by omega)
            have f2 : decide (0 < al.length) = false := decide_eq_false h0
            rw [f2, Bool.false_and] at hB
            subst hB
            go_wp2
            go_meet
            case rel => exact ⟨rfl, rfl⟩
      case rest =>
      obtain ⟨rfl, rfl⟩ := hcut
      go_upto_if 122 with fail
      go_cut [14] from 99 to 295 (fun c wx => ∃ hh : Nat, c = eV hh ∧ hh < 18446744073709551616 ∧ wa = wx)
      case first =>
        as_aux_lemma =>
          cases B
          · go_wp2
            go_meet
            case rel => exact ⟨E, rfl, hE64, rfl⟩
          · have hpos : 0 < al.length := by
              rcases Nat.eq_zero_or_pos al.length with h | h
              · rw [h] at hB; simp at hB
              · exact h
            obtain ⟨q, hq, hqm⟩ := mod_val I al.length hpos (by omega)
            obtain ⟨ag, hag⟩ := owns_some HE1.out.a hpos
            subst hag
            have c1 : wa.cell? ⟨ag, q, none⟩ = some (eV al[q]) := by rw [owns_cell HE1.out.a hqm]; simp [hqm]
            have h64 := H64.out _ (List.getElem_mem hqm)
            have hb1 : (0 : Int) ≤ (q : Int) ∧ (q : Int) < (al.length : Int) := ⟨by omega, by omega⟩
            have hmz : ((al.length : Int) == 0) = false := beq_eq_false_iff_ne.2 (by omega)
            generalize al[q] = e at *
            clear hB
            go_wp2
            go_meet
            case rel => exact ⟨e, rfl, h64, rfl⟩
      case rest =>
      obtain ⟨hh, rfl, hh64, rfl⟩ := hcut
      clear hB
      have hU := RI.boxed (g := 0) (n := 0) (RG := fun _ => 0) (RL := fun _ => false) (RR := fun _ => false) wa
      have hku : Keep (fun _ => False) wa (wa.alloc (.cells (rC 0 0 (fun _ => 0) (fun _ => false) (fun _ => false)) 52)) := (Keep.refl _ wa).alloc _
      obtain ⟨wb, hst, hW, hkw⟩ := ref_store hU most n (rgOf n most G) L (rrOf n most G)
      have hsa := Nat.ne_of_gt HE1.out.r.lt
      have hsS : wa.heap.size ∉ S := fun h => absurd (HE1.out.x.lt wa.heap.size h) (Nat.lt_irrefl _)
      have hsq : (Value.slice ap al.length ac).ownBlock ≠ some wa.heap.size := fun h => absurd (HE1.out.a.lt _ h).2 (Nat.lt_irrefl _)
      have hkab : Keep (fun _ => False) wa wb := keep_new hku hkw (fun k e => by omega)
      have HE2 := hid (HE1.out.keep0 hkab)
      have HA2 := hid (HA0.out.keep0 hkab)
      have HW2 := hid (EA.mk hW hsS hsa hsq)
      have hd0 : wb.cell? ⟨az, 0, none⟩ = some (.int .i64 K) := cell_of HA2.out.get (by simp)
      clear hU hku hsa hsS hsq hkab hkw hW hc0 hc1 hc2 HA0
      go_upto_block 2 with (refine wpList_load_row rfl 52 _ rfl _ rfl _ _ _ _ HE1.out.r Try.underlying52 rfl (by rw [info_ref, rC_size]) ?_)
      generalize wa.heap.size = sz at *
      generalize Value.slice ap al.length ac = av at *
      clear hst hd0 HE1
      go_cut [7, 11, 16, 17, 18, 19, 20, 21, 22, 23, 24, 25, 26] from 99 to 295 (fun x av _ _ _ _ _ _ _ _ _ _ _ wx => ∃ (b : Nat) (S : List Nat) (G : Nat → Nat) (L : Nat → Bool) (F al : List Nat), x = .pointer (some ⟨b, 0, none⟩) ∧ al.length ≤ k + 1 ∧ (∀ e ∈ al, e < 18446744073709551616) ∧ ES w wx b u n most S G L F (rgOf n most G) L (rrOf n most G) av al ∧ EA wx u S av az (.cells #[.int .i64 K, .int .i64 I, .int .u64 (E : Int)] 56 (0, 0)) ∧ (∃ RG RL RR, EA wx u S av sz (.cells (rC most n RG RL RR) 52 (0, 0))))
      case first =>
        have hd0 : wb.cell? ⟨az, 0, none⟩ = some (.int .i64 K) := cell_of HA2.out.get (by simp)
        by_cases h123 : K = 1 ∨ K = 2 ∨ K = 3
        · as_aux_lemma =>
          by_cases hF : F = []
          · have hlaw := HE2.out.x.law
            have hsp := xt_spawn_full HE2.out.x hF
            have hrs := rx_full hlaw hF
            have HSP := hid hsp; have HRS := hid hrs
            clear hsp hrs hlaw hF
            rcases h123 with rfl | rfl | rfl
            all_goals
              go_wp2_with fail
              refine HSP.out.mono ?_
              rintro r w' ⟨rfl, rfl⟩
              go_wp2_with (refine wpList_load_row rfl 52 _ rfl _ rfl _ _ _ _ HE2.out.r Try.underlying52 rfl (by rw [info_ref, rC_size]) ?_)
              refine (HRS.out _).mono ?_
              rintro r wd ⟨rfl, hkd⟩
              have hUd := RI.boxed (g := 0) (n := 0) (RG := fun _ => 0) (RL := fun _ => false) (RR := fun _ => false) wd
              obtain ⟨we, hse, hVe, hke⟩ := ref_store hUd most n (rgOf n most G) L (rrOf n most G)
              have hkde : Keep (fun _ => False) wd we := keep_new ((Keep.refl _ wd).alloc _) hke (fun k e => by omega)
              have hkk := hkd.trans hkde
              have HE5 := hid (HE2.out.keep0 hkk)
              have HA5 := hid (HA2.out.keep0 hkk)
              have HW5 := hid (HW2.out.keep0 hkk)
              have HV := hid hVe
              obtain ⟨wf, hsf, hRf, hkf⟩ := ref_store HE5.out.r most n (rgOf n most G) L (rrOf n most G)
              have HE6 := hid (HE5.out.ref hRf hkf)
              have HA6 := hid (HA5.out.ref hkf)
              have HW6 := hid (HW5.out.ref hkf)
              clear hUd hke hkde hkk hVe hRf hkf hkd
              go_wp2_with (refine wpList_load_row rfl 52 _ rfl _ rfl _ _ _ _ HV.out Try.underlying52 rfl (by rw [info_ref, rC_size]) ?_)
              go_meet
              case rel => exact ⟨b, S, G, L, F, al, rfl, by omega, H64.out, HE6.out, HA6.out, ⟨_, _, _, HW6.out⟩⟩
          · have hlaw := HE2.out.x.law
            have hpos := List.length_pos_iff.2 hF
            obtain ⟨i1, i2, i3, i4⟩ := (hlaw.mem _).1 (at_mem hpos)
            have hG1 := (hlaw.low _ i1 i2).1
            have he64 := hN_lt (at_ F 0) (G (at_ F 0)) (by omega) (by omega)
            have he0 : hN (at_ F 0) (G (at_ F 0)) ≠ 0 := by unfold hN; omega
            have hsp := xt_spawn HE2.out.x hF (at_ F 0) rfl _ rfl
            have hrs := rx_on hlaw hF (at_ F 0) rfl _ rfl
            generalize hN (at_ F 0) (G (at_ F 0)) = e at *
            generalize at_ F 0 = id at *
            have HSP := hid hsp; have HRS := hid hrs
            have f3 : ((e : Int) == 0) = false := beq_eq_false_iff_ne.2 (by omega)
            have f4 : ((e : Int) != 0) = true := by rw [bne, f3]; rfl
            have f5 : (e == 0) = false := beq_eq_false_iff_ne.2 (by omega)
            have f6 : (e != 0) = true := by rw [bne, f5]; rfl
            clear hsp hrs hlaw hF hpos i1 i2 i3 i4 hG1
            rcases h123 with rfl | rfl | rfl
            all_goals
              go_wp2_with fail
              refine HSP.out.mono ?_
              rintro r wq ⟨rfl, F', hX', hk'⟩
              have HE3 := hid (HE2.out.turn hX' (fun k hk => .inl hk) hk')
              have HA3 := hid (HA2.out.turn (fun k hk => .inl hk) hk')
              have HW3 := hid (HW2.out.turn (fun k hk => .inl hk) hk')
              clear hX' hk'
              go_wp2_with (refine wpList_load_row rfl 52 _ rfl _ rfl _ _ _ _ HE3.out.r Try.underlying52 rfl (by rw [info_ref, rC_size]) ?_)
              refine (HRS.out _).mono ?_
              rintro r wd ⟨rfl, hkd⟩
              have hUd := RI.boxed (g := 0) (n := 0) (RG := fun _ => 0) (RL := fun _ => false) (RR := fun _ => false) wd
              obtain ⟨we, hse, hVe, hke⟩ := ref_store hUd most n (rgOf n most G) (upd L id true) (rrOf n most G)
              have hkde : Keep (fun _ => False) wd we := keep_new ((Keep.refl _ wd).alloc _) hke (fun k e => by omega)
              have hkk := hkd.trans hkde
              have HE5 := hid (HE3.out.keep0 hkk)
              have HA5 := hid (HA3.out.keep0 hkk)
              have HW5 := hid (HW3.out.keep0 hkk)
              have HV := hid hVe
              obtain ⟨wf, hsf, hRf, hkf⟩ := ref_store HE5.out.r most n (rgOf n most G) (upd L id true) (rrOf n most G)
              have HE6 := hid (HE5.out.ref hRf hkf)
              have HA6 := hid (HA5.out.ref hkf)
              have HW6 := hid (HW5.out.ref hkf)
              clear hUd hke hkde hkk hVe hRf hkf hkd
              have hb0 := HE6.out.keep.size
              go_wp2_with (first
                | (refine wpList_load_row rfl 52 _ rfl _ rfl _ _ _ _ HV.out Try.underlying52 rfl (by rw [info_ref, rC_size]) ?_)
                | (at_builtin; refine wpList_append_rd rfl _ _ _ rfl w.heap.size _ i0 _ 1 8 Try.underlying54 hi0 hz0 hz1 hz2 rfl (by decide) _ al.length _ (by rfl) (HE6.out.a.alloc _) _ 1 [eV e] (by rfl) (rd_block (heap_alloc_new wf _) (by simp) (by simp [Value.oneCell'])) (by unfold maxLen; omega) (by omega) (by simp; omega) ?_
                   intro v' w5 hown5 hgrow5 hat5 hn5
                   have HE7 := hid (HE6.out.app hown5 hgrow5 hat5)
                   have HA7 := hid (HA6.out.app hgrow5 hat5)
                   have HW7 := hid (HW6.out.app hgrow5 hat5)
                   clear hown5 hgrow5 hat5 hn5))
              go_meet
              case rel =>
                refine ⟨b, S, G, _, F', al ++ [e], rfl, by simp; omega, fun x hx => ?_, HE7.out, HA7.out, ⟨_, _, _, HW7.out⟩⟩
                rcases List.mem_append.1 hx with h | h
                · exact H64.out x h
                · rw [List.mem_singleton.1 h]; exact he64
        by_cases h45 : K = 4 ∨ K = 5
        · as_aux_lemma =>
          cases ha : aliveB G L hh
          · have hlaw := HE2.out.x.law
            have HKI := hid (xt_kill_no HE2.out.x hh hh64 ha _ rfl)
            have HRK := hid (rk_no hlaw hh hh64 ha)
            clear hlaw ha
            rcases h45 with rfl | rfl
            all_goals
              go_wp2_with fail
              refine HKI.out.mono ?_
              rintro r wq ⟨rfl, hkq⟩
              have HE3 := hid (HE2.out.keep0 hkq)
              have HA3 := hid (HA2.out.keep0 hkq)
              have HW3 := hid (HW2.out.keep0 hkq)
              clear hkq
              go_wp2_with (refine wpList_load_row rfl 52 _ rfl _ rfl _ _ _ _ HE3.out.r Try.underlying52 rfl (by rw [info_ref, rC_size]) ?_)
              refine (HRK.out _).mono ?_
              rintro r wd ⟨rfl, hkd⟩
              have hUd := RI.boxed (g := 0) (n := 0) (RG := fun _ => 0) (RL := fun _ => false) (RR := fun _ => false) wd
              obtain ⟨we, hse, hVe, hke⟩ := ref_store hUd most n (rgOf n most G) L (rrOf n most G)
              have hkde : Keep (fun _ => False) wd we := keep_new ((Keep.refl _ wd).alloc _) hke (fun k e => by omega)
              have hkk := hkd.trans hkde
              have HE5 := hid (HE3.out.keep0 hkk)
              have HA5 := hid (HA3.out.keep0 hkk)
              have HW5 := hid (HW3.out.keep0 hkk)
              have HV := hid hVe
              obtain ⟨wf, hsf, hRf, hkf⟩ := ref_store HE5.out.r most n (rgOf n most G) L (rrOf n most G)
              have HE6 := hid (HE5.out.ref hRf hkf)
              have HA6 := hid (HA5.out.ref hkf)
              have HW6 := hid (HW5.out.ref hkf)
              clear hUd hke hkde hkk hVe hRf hkf hkd
              go_wp2_with (refine wpList_load_row rfl 52 _ rfl _ rfl _ _ _ _ HV.out Try.underlying52 rfl (by rw [info_ref, rC_size]) ?_)
              go_meet
              case rel => exact ⟨b, S, G, L, F, al, rfl, by omega, H64.out, HE6.out, HA6.out, ⟨_, _, _, HW6.out⟩⟩
          · have hlaw := HE2.out.x.law
            obtain ⟨id, hidq⟩ : ∃ id, hh % 4294967296 = id := ⟨_, rfl⟩
            have HKI := hid (xt_kill HE2.out.x hh hh64 ha id hidq _ rfl)
            have HRK := hid (rk_yes hlaw hh hh64 ha id hidq)
            clear hlaw ha hidq
            rcases h45 with rfl | rfl
            all_goals
              go_wp2_with fail
              refine HKI.out.mono ?_
              rintro r wq ⟨rfl, S', F', hX', hS', hk'⟩
              have HE3 := hid (HE2.out.turn hX' hS' hk')
              have HA3 := hid (HA2.out.turn hS' hk')
              have HW3 := hid (HW2.out.turn hS' hk')
              clear hX' hS' hk'
              go_wp2_with (refine wpList_load_row rfl 52 _ rfl _ rfl _ _ _ _ HE3.out.r Try.underlying52 rfl (by rw [info_ref, rC_size]) ?_)
              refine (HRK.out _).mono ?_
              rintro r wd ⟨rfl, hkd⟩
              have hUd := RI.boxed (g := 0) (n := 0) (RG := fun _ => 0) (RL := fun _ => false) (RR := fun _ => false) wd
              obtain ⟨we, hse, hVe, hke⟩ := ref_store hUd most n (rgOf n most (upd G id (G id + 1))) (upd L id false) (rrOf n most (upd G id (G id + 1)))
              have hkde : Keep (fun _ => False) wd we := keep_new ((Keep.refl _ wd).alloc _) hke (fun k e => by omega)
              have hkk := hkd.trans hkde
              have HE5 := hid (HE3.out.keep0 hkk)
              have HA5 := hid (HA3.out.keep0 hkk)
              have HW5 := hid (HW3.out.keep0 hkk)
              have HV := hid hVe
              obtain ⟨wf, hsf, hRf, hkf⟩ := ref_store HE5.out.r most n (rgOf n most (upd G id (G id + 1))) (upd L id false) (rrOf n most (upd G id (G id + 1)))
              have HE6 := hid (HE5.out.ref hRf hkf)
              have HA6 := hid (HA5.out.ref hkf)
              have HW6 := hid (HW5.out.ref hkf)
              clear hUd hke hkde hkk hVe hRf hkf hkd
              go_wp2_with (refine wpList_load_row rfl 52 _ rfl _ rfl _ _ _ _ HV.out Try.underlying52 rfl (by rw [info_ref, rC_size]) ?_)
              go_meet
              case rel => exact ⟨b, S', _, _, F', al, rfl, by omega, H64.out, HE6.out, HA6.out, ⟨_, _, _, HW6.out⟩⟩
        by_cases h6 : K = 6
        · as_aux_lemma =>
          subst h6
          have HCL := hid (xt_clone HE2.out.x)
          go_wp2_with fail
          refine HCL.out.mono ?_
          rintro r wq ⟨b', S', rfl, hX', hS', hkq⟩
          have HE3 := hid (HE2.out.turn hX' (fun k hk => .inr (hS' k hk)) (hkq.mono (fun _ _ h => h.elim)))
          have HA3 := hid (HA2.out.turn (S' := S') (fun k hk => .inr (hS' k hk)) (hkq.mono (fun _ _ h => h.elim)))
          have HW3 := hid (HW2.out.turn (S' := S') (fun k hk => .inr (hS' k hk)) (hkq.mono (fun _ _ h => h.elim)))
          have HSM := hid (xt_same (HE2.out.x.keep0 hkq) HE3.out.x)
          clear hX' hS' hkq
          go_wp2_with fail
          refine HSM.out.mono ?_
          rintro r wd ⟨x, rfl, hx, hkd⟩
          obtain rfl : x = true := hx.2 (by simp)
          have HE4 := hid (HE3.out.keep0 hkd)
          have HA4 := hid (HA3.out.keep0 hkd)
          have HW4 := hid (HW3.out.keep0 hkd)
          clear hx hkd
          go_wp2
          go_meet
          case rel => exact ⟨b', S', G, L, F, al, rfl, by omega, H64.out, HE4.out, HA4.out, ⟨_, _, _, HW4.out⟩⟩
        by_cases h7 : K = 7
        · as_aux_lemma =>
          subst h7
          have HCL := hid (xt_clone HE2.out.x)
          go_wp2_with fail
          refine HCL.out.mono ?_
          rintro r wq ⟨b', S', rfl, hX', hS', hkq⟩
          by_cases hF : F = []
          · have HE3 := hid (HE2.out.keep0 hkq)
            have HA3 := hid (HA2.out.keep0 hkq)
            have HW3 := hid (HW2.out.keep0 hkq)
            have HSP := hid (xt_spawn_full hX' hF)
            have HSM := hid (xt_same HE3.out.x hX')
            clear hX' hS' hkq hF
            go_wp2_with fail
            refine HSP.out.mono ?_
            rintro r w' ⟨rfl, rfl⟩
            go_wp2_with fail
            refine HSM.out.mono ?_
            rintro r wd ⟨x, rfl, hx, hkd⟩
            obtain rfl : x = true := hx.2 (by simp)
            have HE4 := hid (HE3.out.keep0 hkd)
            have HA4 := hid (HA3.out.keep0 hkd)
            have HW4 := hid (HW3.out.keep0 hkd)
            clear hx hkd
            go_wp2_with fail
            refine (x_same_one _ _).mono ?_
            rintro r w' ⟨rfl, rfl⟩
            go_wp2
            go_meet
            case rel => exact ⟨b, S, G, L, F, al, rfl, by omega, H64.out, HE4.out, HA4.out, ⟨_, _, _, HW4.out⟩⟩
          · have hlaw := HE2.out.x.law
            have hpos := List.length_pos_iff.2 hF
            obtain ⟨i1, i2, i3, i4⟩ := (hlaw.mem _).1 (at_mem hpos)
            have HI := hid (And.intro i2 i3)
            have hsp := xt_spawn hX' hF (at_ F 0) rfl _ rfl
            generalize hN (at_ F 0) (G (at_ F 0)) = e at *
            generalize at_ F 0 = id at *
            have HSP := hid hsp; have HKQ := hid hkq; have HSS := hid hS'
            clear hsp hkq hS' hX' hF hlaw hpos i1 i2 i3 i4
            go_wp2_with fail
            refine HSP.out.mono ?_
            rintro r wd ⟨rfl, F', hX2, hk2⟩
            have hkk := keep_new HKQ.out hk2 HSS.out
            have HE3 := hid (HE2.out.keep0 hkk)
            have HA3 := hid (HA2.out.keep0 hkk)
            have HW3 := hid (HW2.out.keep0 hkk)
            have HSM := hid (xt_same HE3.out.x hX2)
            clear hX2 hk2 hkk
            go_wp2_with fail
            refine HSM.out.mono ?_
            rintro r wg ⟨x, rfl, hx, hkd⟩
            obtain rfl : x = false := by
              cases x
              · rfl
              · have h := (hx.1 rfl).2 id (by have := HI.out.1; omega)
                rw [upd_same, HI.out.2] at h
                cases h
            have HE4 := hid (HE3.out.keep0 hkd)
            have HA4 := hid (HA3.out.keep0 hkd)
            have HW4 := hid (HW3.out.keep0 hkd)
            clear hx hkd
            go_wp2_with fail
            refine (x_same_one _ _).mono ?_
            rintro r w' ⟨rfl, rfl⟩
            go_wp2
            go_meet
            case rel => exact ⟨b, S, G, L, F, al, rfl, by omega, H64.out, HE4.out, HA4.out, ⟨_, _, _, HW4.out⟩⟩
        have e1 : (K == 1) = false := beq_eq_false_iff_ne.2 (by omega)
        have e2 : (K == 2) = false := beq_eq_false_iff_ne.2 (by omega)
        have e3 : (K == 3) = false := beq_eq_false_iff_ne.2 (by omega)
        have e4 : (K == 4) = false := beq_eq_false_iff_ne.2 (by omega)
        have e5 : (K == 5) = false := beq_eq_false_iff_ne.2 (by omega)
        have e6 : (K == 6) = false := beq_eq_false_iff_ne.2 (by omega)
        have e7 : (K == 7) = false := beq_eq_false_iff_ne.2 (by omega)
        clear h123 h45 h6 h7
        as_aux_lemma =>
          go_wp2
          go_meet
          case rel => exact ⟨b, S, G, L, F, al, rfl, by omega, H64.out, HE2.out, HA2.out, ⟨_, _, _, HW2.out⟩⟩
      case rest =>
        clear HE2 HA2 HW2 H64 hal
        obtain ⟨b, S, G, L, F, al, rfl, hal, h64, hE, hA, ⟨RG, RL, RR, hWS⟩⟩ := hcut
        have hav := owns_val hE.a
        have H64 := hid h64; have HE := hid hE; have HA := hid hA; have HW := hid hWS
        obtain ⟨ap, ac, rfl⟩ := hav
        clear h64 hE hA hWS
        have HLAW := hid HE.out.x.law
        go_wp2_with (refine wpList_load_row rfl 52 _ rfl _ rfl _ _ _ _ HE.out.r Try.underlying52 rfl (by rw [info_ref, rC_size]) ?_)
        refine (rn_law HLAW.out _).mono ?_
        rintro r wn ⟨m, rfl, hm, hkn⟩
        have HE2 := hid (HE.out.keep0 hkn)
        have HA2 := hid (HA.out.keep0 hkn)
        have HW2 := hid (HW.out.keep0 hkn)
        clear hkn HE HA HW
        go_upto_if 232 with fail
        go_cut [27] from 99 to 295 (fun v wx => v = eV (nextE G F) ∧ wn = wx)
        case first =>
          rcases hm with ⟨hF, rfl⟩ | ⟨hF, rfl⟩
          · as_aux_lemma =>
              go_wp2
              go_meet
              case rel => exact ⟨by rw [nextE, if_pos hF]; rfl, rfl⟩
          · have hmem := at_mem (List.length_pos_iff.2 hF)
            obtain ⟨i1, i2, _, _⟩ := (HLAW.out.mem _).1 hmem
            have hn := HLAW.out.n2
            have hgc := HE2.out.r.gen (at_ F 0) (by omega)
            rw [rg_free HLAW.out hmem] at hgc
            have HRH := hid (rh_law HLAW.out (at_ F 0) hmem)
            have hne : nextE G F = hN (at_ F 0) (G (at_ F 0)) := by simp [nextE, hF]
            generalize hN (at_ F 0) (G (at_ F 0)) = e at *
            have hin : (0 : Int) ≤ (at_ F 0 : Int) ∧ (at_ F 0 : Int) < 257 := ⟨by omega, by omega⟩
            generalize G (at_ F 0) = gg at *
            generalize at_ F 0 = id at *
            have f1 : decide ((0 : Int) < (id : Int)) = true := decide_eq_true (by omega)
            have f2 : 0 < id := by omega
            have HNE := hid hne
            clear hmem hF hne i1 i2 hn
            as_aux_lemma =>
              go_wp2_with fail
              try (case inr => exfalso; omega)
              refine (HRH.out _).mono ?_
              rintro r w' ⟨rfl, rfl⟩
              go_wp2
              go_meet
              case rel => exact ⟨by rw [HNE.out], rfl⟩
        case rest =>
        obtain ⟨rfl, rfl⟩ := hcut
        have HL := hid (fun w' (hk : Keep (fun _ => False) wn w') => (HE2.out.keep0 hk).r.load)
        have HC := hid (fun w' (hk : Keep (fun _ => False) wn w') => (cell_of (HA2.out.keep0 hk).get (i := 2) (by simp) : w'.cell? ⟨az, 2, none⟩ = some (eV E)))
        have HWN := hid (fun w' (hk : Keep (fun _ => False) wn w') => RI.cN (HW2.out.keep0 hk).get)
        have HUN := hid (fun w' (hk : Keep (fun _ => False) wn w') => (HE2.out.keep0 hk).r.cN)
        have HM : Hid ((liveIds L (n + 1)).length ≤ 65536) := hid (by have := List.length_filter_le L (List.range (n + 1)); have := HLAW.out.n2; simp only [List.length_range] at *; unfold liveIds; omega)
        have hld0 := 0; have hca0 := 0; have hwn0 := 0; have hun0 := 0
        clear hm
        go_wp2_with fail
        clear hld0 hca0 hwn0 hun0
        refine Plan.wp_region_pl [(false, 0, []), (false, 2, []), (true, 1, [2]), (true, 3, []), (true, 4, []), (false, 5, []), (false, 6, []), (false, 7, []), (false, 9, []), (true, 8, [9]), (true, 10, []), (false, 11, []), (false, 12, []), (false, 13, []), (false, 14, []), (false, 15, []), (false, 17, []), (true, 16, [17]), (true, 18, []), (false, 19, []), (false, 20, []), (false, 21, []), (false, 22, []), (false, 24, []), (true, 23, [24]), (false, 25, []), (false, 26, []), (false, 27, []), (false, 28, []), (false, 29, []), (false, 30, []), (false, 32, []), (false, 33, []), (false, 34, []), (true, 31, [34, 33, 32]), (true, 35, []), (false, 36, []), (false, 37, []), (false, 38, []), (false, 39, []), (false, 40, []), (false, 41, []), (false, 43, []), (false, 44, []), (true, 42, [44, 43]), (true, 45, []), (false, 46, []), (false, 47, []), (false, 48, []), (false, 49, []), (false, 50, []), (false, 51, []), (false, 52, []), (false, 53, []), (false, 54, []), (false, 55, [])] (by as_aux_lemma => kernel_rfl) (by as_aux_lemma => kernel_rfl) ?_
        have hK : Keep (fun _ => False) wn wn.drew := (Keep.refl _ wn).drew
        have hld := HL.out _ hK; have hca := HC.out _ hK; have hwn := HWN.out _ hK; have hun := HUN.out _ hK
        refine Plan.pl_st rfl ?_
        go_big_quiet_step (fail)
        refine wpQuiet_nil ?_
        refine Plan.pl_st rfl ?_
        refine Plan.wpQuiet_load_w rfl 52 _ rfl _ rfl _ hld ?_
        simp only [Act.put, List.setIfInBounds_toArray, List.set_cons_succ, List.set_cons_zero]
        refine wpQuiet_nil ?_
        as_aux_lemma =>
         refine Plan.pl_ac rfl ?_
         go_wp2_with fail
         refine (xt_live (HE2.out.keep0 hK).x).mono ?_
         rintro r y1 ⟨v1, rfl, hown1, hk1⟩
         obtain ⟨pa1, ca1, rfl⟩ := owns_val hown1
         have hO1 := hid hown1
         clear hown1
         replace hK := hK.trans hk1
         clear hk1
         clear hld hca hwn hun
         have hld := HL.out _ hK; have hca := HC.out _ hK; have hwn := HWN.out _ hK; have hun := HUN.out _ hK
         go_wp2
         refine Plan.plQ_mk ?_ ?_
         · refine Plan.chk_st rfl ?_ ?_
           · refine Plan.wpQuiet_load_w rfl 52 _ rfl _ rfl _ hld ?_
             exact wpQuiet_nil rfl
           exact Plan.chk_end
         as_aux_lemma =>
          refine Plan.pl_ac rfl ?_
          go_wp2_with fail
          refine (rl_law HLAW.out _).mono ?_
          rintro r y2 ⟨v2, rfl, hown2, hk2⟩
          obtain ⟨pa2, ca2, rfl⟩ := owns_val hown2
          replace hK := hK.trans hk2
          clear hld hca hwn hun
          have hld := HL.out _ hK; have hca := HC.out _ hK; have hwn := HWN.out _ hK; have hun := HUN.out _ hK
          go_wp2
          refine Plan.plQ_mk ?_ ?_
          · exact Plan.chk_end
          as_aux_lemma =>
           refine Plan.pl_ac rfl ?_
           go_wp2_with fail
           obtain ⟨A, hA1, hA2, hA3⟩ := row_ents HLAW.out (owns_keep hO1.out (fun q hq => hk2.block q (hO1.out.lt q hq).2 id)) hown2
           refine (ents_true _ pa1 pa2 ca1 ca2 _ _ HM.out hA1 hA2 hA3).mono ?_
           rintro r y3 ⟨rfl, hk3⟩
           clear hO1 hown2 hA1 hA2 hA3 hk2
           replace hK := hK.trans hk3
           clear hk3
           clear hld hca hwn hun
           have hld := HL.out _ hK; have hca := HC.out _ hK; have hwn := HWN.out _ hK; have hun := HUN.out _ hK
           go_wp2
           refine Plan.plQ_mk ?_ ?_
           · exact Plan.chk_end
           refine Plan.pl_st rfl ?_
           go_big_quiet_step (fail)
           refine wpQuiet_nil ?_
           refine Plan.pl_st rfl ?_
           go_big_quiet_step (fail)
           refine wpQuiet_nil ?_
           refine Plan.pl_st rfl ?_
           go_big_quiet_step (fail)
           refine wpQuiet_nil ?_
           refine Plan.pl_st rfl ?_
           refine Plan.wpQuiet_load_w rfl 52 _ rfl _ rfl _ hld ?_
           simp only [Act.put, List.setIfInBounds_toArray, List.set_cons_succ, List.set_cons_zero]
           refine wpQuiet_nil ?_
           as_aux_lemma =>
            refine Plan.pl_ac rfl ?_
            go_wp2_with fail
            refine (xt_count (HE2.out.keep0 hK).x).mono ?_
            rintro r y4 ⟨rfl, hk4⟩
            replace hK := hK.trans hk4
            clear hk4
            clear hld hca hwn hun
            have hld := HL.out _ hK; have hca := HC.out _ hK; have hwn := HWN.out _ hK; have hun := HUN.out _ hK
            go_wp2
            refine Plan.plQ_mk ?_ ?_
            · refine Plan.chk_st rfl ?_ ?_
              · refine Plan.wpQuiet_load_w rfl 52 _ rfl _ rfl _ hld ?_
                exact wpQuiet_nil rfl
              exact Plan.chk_end
            as_aux_lemma =>
             refine Plan.pl_ac rfl ?_
             go_wp2_with fail
             refine (rl_law HLAW.out _).mono ?_
             rintro r y5 ⟨v5, rfl, hown5, hk5⟩
             obtain ⟨pa5, ca5, rfl⟩ := owns_val hown5
             clear hown5
             replace hK := hK.trans hk5
             clear hk5
             clear hld hca hwn hun
             have hld := HL.out _ hK; have hca := HC.out _ hK; have hwn := HWN.out _ hK; have hun := HUN.out _ hK
             go_wp2
             refine Plan.plQ_mk ?_ ?_
             · exact Plan.chk_end
             refine Plan.pl_st rfl ?_
             go_big_quiet_step (fail)
             refine wpQuiet_nil ?_
             refine Plan.pl_st rfl ?_
             go_big_quiet_step (fail)
             refine wpQuiet_nil ?_
             refine Plan.pl_st rfl ?_
             go_big_quiet_step (fail)
             refine wpQuiet_nil ?_
             refine Plan.pl_st rfl ?_
             go_big_quiet_step (fail)
             refine wpQuiet_nil ?_
             refine Plan.pl_st rfl ?_
             go_big_quiet_step (fail)
             refine wpQuiet_nil ?_
             refine Plan.pl_st rfl ?_
             refine Plan.wpQuiet_load_w rfl 52 _ rfl _ rfl _ hld ?_
             simp only [Act.put, List.setIfInBounds_toArray, List.set_cons_succ, List.set_cons_zero]
             refine wpQuiet_nil ?_
             as_aux_lemma =>
              refine Plan.pl_ac rfl ?_
              go_wp2_with fail
              refine (xt_free (HE2.out.keep0 hK).x).mono ?_
              rintro r w_ ⟨rfl, rfl⟩
              go_wp2
              refine Plan.plQ_mk ?_ ?_
              · refine Plan.chk_st rfl ?_ ?_
                · refine Plan.wpQuiet_load_w rfl 52 _ rfl _ rfl _ hld ?_
                  exact wpQuiet_nil rfl
                exact Plan.chk_end
              as_aux_lemma =>
               refine Plan.pl_ac rfl ?_
               go_wp2_with fail
               refine (rf_law HLAW.out _).mono ?_
               rintro r y7 ⟨rfl, hk7⟩
               replace hK := hK.trans hk7
               clear hk7
               clear hld hca hwn hun
               have hld := HL.out _ hK; have hca := HC.out _ hK; have hwn := HWN.out _ hK; have hun := HUN.out _ hK
               go_wp2
               refine Plan.plQ_mk ?_ ?_
               · exact Plan.chk_end
               refine Plan.pl_st rfl ?_
               go_big_quiet_step (fail)
               refine wpQuiet_nil ?_
               refine Plan.pl_st rfl ?_
               go_big_quiet_step (fail)
               refine wpQuiet_nil ?_
               refine Plan.pl_st rfl ?_
               go_big_quiet_step (fail)
               refine wpQuiet_nil ?_
               refine Plan.pl_st rfl ?_
               go_big_quiet_step (fail)
               refine wpQuiet_nil ?_
               refine Plan.pl_st rfl ?_
               go_big_quiet_step (fail)
               refine wpQuiet_nil ?_
               as_aux_lemma =>
                refine Plan.pl_ac rfl ?_
                go_wp2_with fail
                refine (xt_next (HE2.out.keep0 hK).x).mono ?_
                rintro r y8 ⟨rfl, hk8⟩
                replace hK := hK.trans hk8
                clear hk8
                clear hld hca hwn hun
                have hld := HL.out _ hK; have hca := HC.out _ hK; have hwn := HWN.out _ hK; have hun := HUN.out _ hK
                go_wp2
                refine Plan.plQ_mk ?_ ?_
                · refine Plan.chk_st rfl ?_ ?_
                  · go_big_quiet_step (fail)
                    exact wpQuiet_nil rfl
                  exact Plan.chk_end
                refine Plan.pl_st rfl ?_
                go_big_quiet_step (fail)
                refine wpQuiet_nil ?_
                refine Plan.pl_st rfl ?_
                go_big_quiet_step (fail)
                refine wpQuiet_nil ?_
                refine Plan.pl_st rfl ?_
                go_big_quiet_step (fail)
                refine wpQuiet_nil ?_
                refine Plan.pl_st rfl ?_
                go_big_quiet_step (fail)
                refine wpQuiet_nil ?_
                refine Plan.pl_st rfl ?_
                go_big_quiet_step (fail)
                refine wpQuiet_nil ?_
                refine Plan.pl_st rfl ?_
                go_big_quiet_step (fail)
                refine wpQuiet_nil ?_
                refine Plan.pl_st rfl ?_
                refine Plan.wpQuiet_load_w rfl 52 _ rfl _ rfl _ hld ?_
                simp only [Act.put, List.setIfInBounds_toArray, List.set_cons_succ, List.set_cons_zero]
                refine wpQuiet_nil ?_
                refine Plan.pl_st rfl ?_
                go_big_quiet_step (fail)
                refine wpQuiet_nil ?_
                refine Plan.pl_st rfl ?_
                go_big_quiet_step (fail)
                refine wpQuiet_nil ?_
                as_aux_lemma =>
                 refine Plan.pl_ac rfl ?_
                 go_wp2_with fail
                 refine (xt_alive (HE2.out.keep0 hK).x E hE64 _ rfl).mono ?_
                 rintro r y9 ⟨rfl, hk9⟩
                 replace hK := hK.trans hk9
                 clear hk9
                 clear hld hca hwn hun
                 have hld := HL.out _ hK; have hca := HC.out _ hK; have hwn := HWN.out _ hK; have hun := HUN.out _ hK
                 go_wp2
                 refine Plan.plQ_mk ?_ ?_
                 · refine Plan.chk_st rfl ?_ ?_
                   · go_big_quiet_step (fail)
                     exact wpQuiet_nil rfl
                   refine Plan.chk_st rfl ?_ ?_
                   · go_big_quiet_step (fail)
                     exact wpQuiet_nil rfl
                   refine Plan.chk_st rfl ?_ ?_
                   · refine Plan.wpQuiet_load_w rfl 52 _ rfl _ rfl _ hld ?_
                     exact wpQuiet_nil rfl
                   exact Plan.chk_end
                 as_aux_lemma =>
                  refine Plan.pl_ac rfl ?_
                  go_wp2_with fail
                  refine (ra_law HLAW.out E hE64 _).mono ?_
                  rintro r y10 ⟨m1, rfl, hm1, hk10⟩
                  replace hK := hK.trans hk10
                  clear hk10
                  clear hld hca hwn hun
                  have hld := HL.out _ hK; have hca := HC.out _ hK; have hwn := HWN.out _ hK; have hun := HUN.out _ hK
                  go_wp2
                  refine Plan.plQ_mk ?_ ?_
                  · exact Plan.chk_end
                  refine Plan.pl_st rfl ?_
                  go_big_quiet_step (fail)
                  refine wpQuiet_nil ?_
                  refine Plan.pl_st rfl ?_
                  go_big_quiet_step (fail)
                  refine wpQuiet_nil ?_
                  refine Plan.pl_st rfl ?_
                  go_big_quiet_step (fail)
                  refine wpQuiet_nil ?_
                  refine Plan.pl_st rfl ?_
                  go_big_quiet_step (fail)
                  refine wpQuiet_nil ?_
                  refine Plan.pl_st rfl ?_
                  go_big_quiet_step (fail)
                  refine wpQuiet_nil ?_
                  refine Plan.pl_st rfl ?_
                  go_big_quiet_step (fail)
                  refine wpQuiet_nil ?_
                  refine Plan.pl_st rfl ?_
                  refine Plan.wpQuiet_load_w rfl 52 _ rfl _ rfl _ hld ?_
                  simp only [Act.put, List.setIfInBounds_toArray, List.set_cons_succ, List.set_cons_zero]
                  refine wpQuiet_nil ?_
                  refine Plan.pl_st rfl ?_
                  go_big_quiet_step (fail)
                  refine wpQuiet_nil ?_
                  as_aux_lemma =>
                   refine Plan.pl_ac rfl ?_
                   go_wp2_with fail
                   refine (xt_alive (HE2.out.keep0 hK).x hh hh64 _ rfl).mono ?_
                   rintro r y11 ⟨rfl, hk11⟩
                   replace hK := hK.trans hk11
                   clear hk11
                   clear hld hca hwn hun
                   have hld := HL.out _ hK; have hca := HC.out _ hK; have hwn := HWN.out _ hK; have hun := HUN.out _ hK
                   go_wp2
                   refine Plan.plQ_mk ?_ ?_
                   · refine Plan.chk_st rfl ?_ ?_
                     · go_big_quiet_step (fail)
                       exact wpQuiet_nil rfl
                     refine Plan.chk_st rfl ?_ ?_
                     · refine Plan.wpQuiet_load_w rfl 52 _ rfl _ rfl _ hld ?_
                       exact wpQuiet_nil rfl
                     exact Plan.chk_end
                   as_aux_lemma =>
                    refine Plan.pl_ac rfl ?_
                    go_wp2_with fail
                    refine (ra_law HLAW.out hh hh64 _).mono ?_
                    rintro r y12 ⟨m2, rfl, hm2, hk12⟩
                    replace hK := hK.trans hk12
                    clear hk12
                    clear hld hca hwn hun
                    have hld := HL.out _ hK; have hca := HC.out _ hK; have hwn := HWN.out _ hK; have hun := HUN.out _ hK
                    go_wp2
                    refine Plan.plQ_mk ?_ ?_
                    · exact Plan.chk_end
                    refine Plan.pl_st rfl ?_
                    go_big_quiet_step (fail)
                    refine wpQuiet_nil ?_
                    refine Plan.pl_st rfl ?_
                    go_big_quiet_step (fail)
                    refine wpQuiet_nil ?_
                    refine Plan.pl_st rfl ?_
                    go_big_quiet_step (fail)
                    refine wpQuiet_nil ?_
                    refine Plan.pl_st rfl ?_
                    go_big_quiet_step (fail)
                    refine wpQuiet_nil ?_
                    refine Plan.pl_st rfl ?_
                    go_big_quiet_step (fail)
                    refine wpQuiet_nil ?_
                    refine Plan.pl_st rfl ?_
                    go_big_quiet_step (fail)
                    refine wpQuiet_nil ?_
                    refine Plan.pl_st rfl ?_
                    go_big_quiet_step (fail)
                    refine wpQuiet_nil ?_
                    refine Plan.pl_st rfl ?_
                    go_big_quiet_step (fail)
                    refine wpQuiet_nil ?_
                    refine Plan.pl_st rfl ?_
                    go_big_quiet_step (fail)
                    refine wpQuiet_nil ?_
                    refine Plan.pl_st rfl ?_
                    go_big_quiet_step (fail)
                    refine wpQuiet_nil ?_
                    refine Plan.pl_end ?_
                    go_wp2
                    go_roundw
                    case rel =>
                      have hs := HE2.out.keep0 hK
                      exact ⟨k + 1, b, S, G, L, F, al, by omega, by go_num, rfl, hal, H64.out, hs⟩
                    case measure => simp [intOf]; omega
    · --out
      have HB := hid HE.out.keep.below
      clear HE H64
      by_cases hl : k < len
      · have g1 : decide ((k : Int) < (len : Int)) = true := decide_eq_true (by omega)
        have g2 : decide (k < len) = true := decide_eq_true hl
        have g3 : decide ((k : Int) < 200) = false := decide_eq_false (by omega)
        have g4 : decide (k < 200) = false := decide_eq_false (by omega)
        go_wp2
        go_ret
        exact ⟨rfl, HB.out⟩
      · have g1 : decide ((k : Int) < (len : Int)) = false := decide_eq_false (by omega)
        have g2 : decide (k < len) = false := decide_eq_false hl
        go_wp2
        go_ret
        exact ⟨rfl, HB.out⟩

end Go.Proofs.Ytmckidhedogcaaa
