/- What is proved: what Text of the great numbers answers. -/
import Derived.Test.YtlhdofkgcbmnnaaGreatDoorMJoinLaw
import Derived.Test.YtlhdofkgcbmnnaaGreatDoorMRdr
import Derived.Test.YtlhdofkgcbmnnaaGreatDoorMExClo2
import Derived.Test.YtlhdofkgcbmnnaaGreatDoorMPlain
import Derived.Test.YtlhdofkgcbmnnaaGreatDoorMExDecLaw
import Derived.Test.YtlhdofkgcbmnnaaGreatDoorMDyn
import Derived.Test.YtlhdofkgcbmnnaaGreatDoorMExpr2
import Derived.Test.YtlhdofkgcbmnnaaGreatDoorMWide2
import Derived.Laws.EntriesVeiled
namespace Go.Proofs.YtlhdofkgcbmnnaaGreatDoor
open Go.RowKit Go.Proofs.Heap Go.Proofs.Wide
/-- A great number's text. -/
def textW (x : WI) : ByteArray := if x.form = true then ⟨(if x.neg = true then 45 :: Lib.decDigits x.mag else Lib.decDigits x.mag).toArray⟩ else ⟨#[]⟩
def lenM : Value → Nat
  | .slice _ 0 _ => 1
  | _ => 0
/-- The loop's measure. -/
def msT (s h l : Value) : Nat := 2 * ((intOf h).toNat * 18446744073709551616 + (intOf l).toNat) + lenM s
theorem ms_of (p : Option Addr) (n c a b u : Nat) (h : a * 18446744073709551616 + b = u) : msT (.slice p n c) (.int .u64 (a : Int)) (.int .u64 (b : Int)) = 2 * u + (if n = 0 then 1 else 0) := by
  have e1 : intOf (.int .u64 (a : Int)) = (a : Int) := rfl
  have e2 : intOf (.int .u64 (b : Int)) = (b : Int) := rfl
  have e3 : lenM (.slice p n c) = if n = 0 then 1 else 0 := by cases n <;> rfl
  unfold msT
  rw [e1, e2, e3, Int.toNat_natCast, Int.toNat_natCast, h]
theorem ms_lt {n u : Nat} (h : n = 0 ∨ u ≠ 0) : 2 * (u / 10) + (if 1 + n = 0 then 1 else 0) < 2 * u + (if n = 0 then 1 else 0) := by
  rw [if_neg (by omega)]
  by_cases h0 : n = 0
  · rw [if_pos h0]; omega
  · rw [if_neg h0]; omega
theorem info_u8T : (Tryz.prog.info? 5).map (fun i => (i.zero, i.size, i.bytes)) = some (some (.int .u8 0), 1, 1) := by kernel_rfl
theorem one_made {w : World} {base b : Nat} {e : TypeId} {v : Value} (hh : w.heap[b]? = some (.cells #[v] e (0, 0))) (hb : base ≤ b) : w.ownsRow base e 1 (.slice (some ⟨b, 0, none⟩) 1 1) 1 [v] :=
  ⟨rfl, .inr ⟨b, 1, #[v], rfl, hb, hh, Nat.le_refl _, by decide, rfl, rfl⟩⟩
/-- One step of the long division by ten. -/
theorem ten_step {hi lo m : Nat} (hm : hi * 18446744073709551616 + lo = m) (hl : lo < 18446744073709551616) :
    hi / 10 * 18446744073709551616 + (hi % 10 * 18446744073709551616 + lo) / 10 = m / 10 ∧ (hi % 10 * 18446744073709551616 + lo) % 10 = m % 10 ∧ (hi % 10 * 18446744073709551616 + lo) / 10 < 18446744073709551616 := by omega
/-- How many digits there can be. -/
theorem ten_len {m u n : Nat} (hm : m < 340282366920938463463374607431768211456) (hu : u ≠ 0) (h : u * 2 ^ n ≤ m) : n < 128 := by
  refine (Nat.pow_lt_pow_iff_right (a := 2) (by decide)).1 (Nat.lt_of_le_of_lt ?_ (show m < 2 ^ 128 from hm))
  exact Nat.le_trans (Nat.le_mul_of_pos_left _ (Nat.pos_of_ne_zero hu)) h
theorem ten_next {m u n : Nat} (h : u * 2 ^ n ≤ m) : u / 10 * 2 ^ (n + 1) ≤ m := by
  refine Nat.le_trans ?_ h
  rw [Nat.pow_succ, Nat.mul_comm (2 ^ n) 2, ← Nat.mul_assoc]
  exact Nat.mul_le_mul_right _ (by omega)
set_option maxRecDepth 20000 in
set_option maxHeartbeats 8000000 in
theorem w_text (x : WI) (hx : x.fit) (w : World) : Calls Tryz.prog 106 #[WV x] w fun r w' => r = .returned (.string (textW x)) ∧ Keep (fun _ => False) w w' := by
  obtain ⟨w1, hw1, hb1, hs1, hk1⟩ := box1 w (WC x) 64
  have HK1 := hid hk1; have HB1 := hid hb1
  have HF := hid (w_form x hx w1); have HFX := hid hx
  have a0 := cell_of hb1 (i := 0) (by rfl)
  have a1 := cell_of hb1 (i := 1) (by rfl)
  have a2 := cell_of hb1 (i := 2) (by rfl)
  clear hb1 hs1 hk1 hx
  go_enter Tryz.func106, Tryz.ntmps106
  go_upto_region 1 with fail
  rw [← hw1]
  clear hw1
  generalize w.heap.size = sb at *
  go_wp2_with fail
  refine HF.out.mono ?_
  rintro r w2 ⟨rfl, hk⟩
  have HK2 := hid (HK1.out.trans hk); have HB2 := hid (hk.get HB1.out id)
  clear hk a0 a1 a2
  have a0 := cell_of HB2.out (i := 0) (by rfl)
  have a1 := cell_of HB2.out (i := 1) (by rfl)
  have a2 := cell_of HB2.out (i := 2) (by rfl)
  cases hf : x.form
  · have G : Hid (textW x = ⟨#[]⟩) := hid (if_neg (by rw [hf]; decide))
    clear hf
    go_wp2
    go_ret
    exact ⟨by rw [G.out]; rfl, HK2.out⟩
  · have HFO := hid hf
    clear hf
    go_upto_region 4 with fail
    refine Plan.wp_region_pl [(false, 0, []), (false, 1, []), (false, 2, []), (false, 3, []), (false, 4, []), (false, 5, [])] (by as_aux_lemma => kernel_rfl) (by as_aux_lemma => kernel_rfl) ?_
    have HKD := hid HK2.out.drew
    have a0 : w2.drew.cell? ⟨sb, 0, none⟩ = some (.bool x.neg) := a0
    have a1 : w2.drew.cell? ⟨sb, 1, none⟩ = some (.int .u64 (x.hi : Int)) := a1
    have a2 : w2.drew.cell? ⟨sb, 2, none⟩ = some (.int .u64 (x.lo : Int)) := a2
    have HBD : Hid (w2.drew.heap[sb]? = some (.cells (WC x) 64 (0, 0))) := HB2
    clear HK2 HB2
    generalize w2.drew = w3 at *
    iterate 6 (refine Plan.pl_st rfl ?_; go_big_quiet_step (fail); refine wpQuiet_nil ?_)
    refine Plan.pl_end ?_
    go_wp2_with fail
    have HFZ := hid (mag_form HFX.out HFO.out)
    clear a0 a1 a2
    have HI := hid (info_parts' info_u8T)
    go_loopw [3, 4, 5, 6, 7] (fun s h l _ _ wr => ∃ (u hi lo n : Nat) (ds : List UInt8), h = .int .u64 (hi : Int) ∧ l = .int .u64 (lo : Int) ∧ hi < 18446744073709551616 ∧ lo < 18446744073709551616 ∧ hi * 18446744073709551616 + lo = u ∧ ds.length = n ∧ n ≤ 200 ∧ Dg x.mag u ds ∧ u * 2 ^ n ≤ x.mag ∧ wr.ownsRow w3.heap.size 5 1 s n (ds.map byteV) ∧ Keep (fun _ => False) w3 wr) (fun s h l _ _ _ => msT s h l)
    case atStart => exact ⟨x.mag, x.hi, x.lo, 0, [], rfl, rfl, HFX.out.1, HFX.out.2, rfl, rfl, by decide, .inl ⟨rfl, rfl⟩, by simp, World.ownsRow_nil _ _ _ _, Keep.refl _ _⟩
    case round =>
      obtain ⟨u, hi, lo, n, ds, rfl, rfl, hh, hl, hu, hn, hn2, hdg, hpw, how, hkr⟩ := hrel
      obtain ⟨vp, vc, rfl⟩ := owns_val how
      have HD := hid hdg; have HK := hid hkr; have HO := hid how; have HP := hid hpw; have HN2 := hid hn2; have HL := hid (And.intro hh (And.intro hl (And.intro hu hn)))
      obtain ⟨z, hz, hz0⟩ := or_zero hi lo hh hl
      clear hdg hkr how hpw hh hl hu hn hn2
      by_cases hgo : n = 0 ∨ z ≠ 0
      · have hu0 : n ≠ 0 → u ≠ 0 := fun h1 h2 => by
          rcases hgo with h | h
          · exact h1 h
          · exact h (hz0.2 (by have := HL.out.2.2.1; omega))
        have HNX := hid (HD.out.next (by
          by_cases h : n = 0
          · exact .inl (List.eq_nil_of_length_eq_zero (by rw [HL.out.2.2.2]; exact h))
          · exact .inr (hu0 h)))
        have HN3 : Hid (n + 1 ≤ 200) := hid (by
          by_cases h : n = 0
          · omega
          · have := ten_len (mag_lt HFX.out) (hu0 h) HP.out
            omega)
        have HP3 := hid (ten_next HP.out)
        have HS := hid (ten_step HL.out.2.2.1 HL.out.2.1)
        obtain ⟨c, hc⟩ : ∃ c, hi % 10 = c := ⟨_, rfl⟩
        obtain ⟨h', hh'⟩ : ∃ h', hi / 10 = h' := ⟨_, rfl⟩
        rw [hc, hh'] at HS
        have hc10 : c < 10 := by omega
        have HDV := hid (b_div10 c lo hc10 HL.out.2.1)
        obtain ⟨l', hl'⟩ : ∃ l', (c * 18446744073709551616 + lo) / 10 = l' := ⟨_, rfl⟩
        obtain ⟨d, hd⟩ : ∃ d, (c * 18446744073709551616 + lo) % 10 = d := ⟨_, rfl⟩
        have hd10 : d < 10 := by omega
        rw [hl', hd] at HS
        simp only [hl', hd] at HDV
        rw [← HS.out.2.1] at HNX
        have HHL : Hid (h' < 18446744073709551616 ∧ h' ≤ hi) := hid (by have := HL.out.1; omega)
        have e1 : (hi : Int) % 10 = (c : Int) := by omega
        have e2 : (hi : Int) / 10 = (h' : Int) := by omega
        have HHI := hid HL.out.1
        have hhi := HHI.out
        have HM : Hid (n = 0 ∨ u ≠ 0) := hid (by
          by_cases h : n = 0
          · exact .inl h
          · exact .inr (hu0 h))
        clear hl' hd hc hh' hu0
        have hor : (z ≠ 0) ∨ (z = 0 ∧ n = 0) := by
          by_cases h : z = 0
          · exact .inr ⟨h, by rcases hgo with h2 | h2; exact h2; exact absurd h h2⟩
          · exact .inl h
        clear hgo hz0
        rcases hor with hz1 | ⟨hz1, hn1⟩
        · as_aux_lemma =>
          have g1 : ((z : Int) != 0) = true := by rw [bne_iff_ne]; omega
          clear hz1
          go_wp2_with fail
          refine (HDV.out wr).mono ?_
          rintro r w5 ⟨rfl, hk⟩
          have HO5 := hid (owns_keep HO.out (fun q hq => hk.block q (HO.out.lt q hq).2 id))
          have HK5 := hid (HK.out.trans hk)
          have HSZ := hid HK5.out.size
          have hn3 := HN3.out
          have HON : Hid ((w5.alloc (.cells #[.int .u8 (48 + (d : Int))] 5)).ownsRow w3.heap.size 5 1 (.slice (some ⟨w5.heap.size, 0, none⟩) 1 1) 1 [.int .u8 (48 + (d : Int))]) := hid (one_made (heap_alloc_new w5 _) HSZ.out)
          clear hk
          obtain ⟨i0, hi0, hz0, hz1, hz2⟩ := HI.out
          go_wp2_with (at_builtin; go_loud (refine wpList_append_rd rfl (.tmp 37) (.tmp 38) _ rfl w3.heap.size _ i0 _ 1 1 Tryz.underlying59 hi0 hz0 hz1 hz2 rfl (by decide) _ 1 _ (by rfl) HON.out _ n _ (by rfl) (rd_own (HO5.out.alloc _) (by intro u hu; obtain ⟨b, _, rfl⟩ := List.mem_map.1 hu; rfl)) (by unfold maxLen; omega) (by omega) (by have := HSZ.out; simp; omega) ?_); go_loud (intro v' w7 hown6 hgrow6 hat6 hn6; obtain ⟨vq, vd, rfl⟩ := owns_val hown6; have HO7 := hid hown6; have HK7 := hid ((HK5.out.alloc _).grown hgrow6 (fun k hk => .inl (HON.out.lt k hk).1)); clear hown6 hgrow6 hat6 hn6))
          go_roundw
          case rel =>
            refine ⟨u / 10, h', l', 1 + n, UInt8.ofNat (48 + d) :: ds, rfl, rfl, HHL.out.1, HS.out.2.2, HS.out.1, by rw [List.length_cons, HL.out.2.2.2, Nat.add_comm], by omega, HNX.out, by rw [Nat.add_comm 1 n]; exact HP3.out, ?_, HK7.out⟩
            rw [List.map_cons, show byteV (UInt8.ofNat (48 + d)) = .int .u8 (48 + (d : Int)) by
              have : (UInt8.ofNat (48 + d)).toNat = 48 + d := by rw [UInt8.toNat_ofNat']; exact Nat.mod_eq_of_lt (by omega)
              simp [byteV]; omega]
            exact HO7.out
          case measure =>
            have h1 := HS.out.1; have h2 := HL.out.2.2.1; have h3 := HM.out
            clear HO7 HO5 HON HK7 HK5 HO HD HNX HP HP3 HL HM HN2 HN3 HI HDV
            rw [ms_of _ _ _ _ _ _ h1, ms_of _ _ _ _ _ _ h2]
            exact ms_lt h3
        · as_aux_lemma =>
          have g1 : ((z : Int) != 0) = false := by rw [hz1]; rfl
          have g2 : ((n : Int) == 0) = true := by rw [hn1]; rfl
          clear hz1 hn1
          go_wp2_with fail
          refine (HDV.out wr).mono ?_
          rintro r w5 ⟨rfl, hk⟩
          have HO5 := hid (owns_keep HO.out (fun q hq => hk.block q (HO.out.lt q hq).2 id))
          have HK5 := hid (HK.out.trans hk)
          have HSZ := hid HK5.out.size
          have hn3 := HN3.out
          have HON : Hid ((w5.alloc (.cells #[.int .u8 (48 + (d : Int))] 5)).ownsRow w3.heap.size 5 1 (.slice (some ⟨w5.heap.size, 0, none⟩) 1 1) 1 [.int .u8 (48 + (d : Int))]) := hid (one_made (heap_alloc_new w5 _) HSZ.out)
          clear hk
          obtain ⟨i0, hi0, hz0, hz1, hz2⟩ := HI.out
          go_wp2_with (at_builtin; go_loud (refine wpList_append_rd rfl (.tmp 37) (.tmp 38) _ rfl w3.heap.size _ i0 _ 1 1 Tryz.underlying59 hi0 hz0 hz1 hz2 rfl (by decide) _ 1 _ (by rfl) HON.out _ n _ (by rfl) (rd_own (HO5.out.alloc _) (by intro u hu; obtain ⟨b, _, rfl⟩ := List.mem_map.1 hu; rfl)) (by unfold maxLen; omega) (by omega) (by have := HSZ.out; simp; omega) ?_); go_loud (intro v' w7 hown6 hgrow6 hat6 hn6; obtain ⟨vq, vd, rfl⟩ := owns_val hown6; have HO7 := hid hown6; have HK7 := hid ((HK5.out.alloc _).grown hgrow6 (fun k hk => .inl (HON.out.lt k hk).1)); clear hown6 hgrow6 hat6 hn6))
          go_roundw
          case rel =>
            refine ⟨u / 10, h', l', 1 + n, UInt8.ofNat (48 + d) :: ds, rfl, rfl, HHL.out.1, HS.out.2.2, HS.out.1, by rw [List.length_cons, HL.out.2.2.2, Nat.add_comm], by omega, HNX.out, by rw [Nat.add_comm 1 n]; exact HP3.out, ?_, HK7.out⟩
            rw [List.map_cons, show byteV (UInt8.ofNat (48 + d)) = .int .u8 (48 + (d : Int)) by
              have : (UInt8.ofNat (48 + d)).toNat = 48 + d := by rw [UInt8.toNat_ofNat']; exact Nat.mod_eq_of_lt (by omega)
              simp [byteV]; omega]
            exact HO7.out
          case measure =>
            have h1 := HS.out.1; have h2 := HL.out.2.2.1; have h3 := HM.out
            clear HO7 HO5 HON HK7 HK5 HO HD HNX HP HP3 HL HM HN2 HN3 HI HDV
            rw [ms_of _ _ _ _ _ _ h1, ms_of _ _ _ _ _ _ h2]
            exact ms_lt h3
      · as_aux_lemma =>
        have hz1 : z = 0 := Classical.byContradiction fun h => hgo (.inr h)
        have hn0 : n ≠ 0 := fun h => hgo (.inl h)
        have HE := hid (HD.out.end (fun h => hn0 (by rw [← HL.out.2.2.2, h]; rfl)) (by have := hz0.1 hz1; have := HL.out.2.2.1; omega))
        have g1 : ((z : Int) != 0) = false := by rw [hz1]; rfl
        have g2 : ((n : Int) == 0) = false := by rw [beq_eq_false_iff_ne]; omega
        clear hgo hz0 hz1
        obtain ⟨g, rfl⟩ := owns_some HO.out (by omega)
        have HBR := hid (HK.out.get HBD.out id)
        have a0 : wr.cell? ⟨sb, 0, none⟩ = some (.bool x.neg) := cell_of HBR.out (by rfl)
        have hbs : (convert 59 9 (.slice (some ⟨g, 0, none⟩) n vc)).run Tryz.prog wr = .ok (.string ⟨ds.toArray⟩) wr := by
          refine run_bytes_string _ _ _ 5 Tryz.underlying59 Tryz.underlying5 Tryz.underlying9 _ 0 n vc ds HL.out.2.2.2 (fun i y hy => ?_)
          rw [Nat.zero_add, owns_cell HO.out (by rw [← HL.out.2.2.2]; exact (List.getElem?_eq_some_iff.1 hy).1), List.getElem?_map, hy]
          rfl
        have HKW := hid (HKD.out.trans HK.out)
        have hdl : ds.length ≤ 200 := by rw [HL.out.2.2.2]; exact HN2.out
        cases hn : x.neg
        · have G : Hid (textW x = ⟨ds.toArray⟩) := hid (by unfold textW; rw [if_pos HFO.out, if_neg (by rw [hn]; decide), HE.out])
          rw [hn] at a0
          clear hn
          go_wp2
          go_ret
          exact ⟨by rw [G.out]; rfl, HKW.out⟩
        · have G : Hid (textW x = ⟨(45 :: ds).toArray⟩) := hid (by unfold textW; rw [if_pos HFO.out, if_pos hn, HE.out])
          have GC := hid (cons_str ⟨ds.toArray⟩)
          rw [hn] at a0
          clear hn
          go_wp2
          go_ret
          exact ⟨by rw [G.out, ← GC.out]; rfl, HKW.out⟩
end Go.Proofs.YtlhdofkgcbmnnaaGreatDoor

namespace Go.Proofs.YtlhdofkgcbmnnaaGreatDoor
open Go.RowKit Go.Proofs.Heap Go.Proofs.Sch Go.Proofs.Wide

/-- How an instruction is shown that takes nothing. -/
def leafT (x : Ins) : ByteArray := if x.op = 2 then ⟨#[102]⟩ ++ itB x.a ++ ⟨#[46]⟩ ++ itB x.b else if x.op = 3 then ⟨#[102]⟩ ++ itB x.a ++ ⟨#[64]⟩ else if x.op = 4 then ⟨#[64]⟩ else textW x.k
/-- How an instruction is shown, behind the texts that it takes. -/
def insT (x : Ins) (l : List ByteArray) : ByteArray := if argsN x.op = 0 then leafT x else wordX x.op ++ ⟨#[40]⟩ ++ joinB l 44 ++ ⟨#[41]⟩
def showRun : List ByteArray → List Ins → List ByteArray
  | st, [] => st
  | st, x :: r => showRun (st.take (st.length - argsN x.op) ++ [insT x (st.drop (st.length - argsN x.op))]) r
/-- How a formula is shown. -/
def showX (code : List Ins) : ByteArray := if exprC code = 0 then (showRun [] code).getD 0 ⟨#[]⟩ else ⟨#[]⟩
theorem showRun_next {code : List Ins} {k : Nat} {x : Ins} (h : code[k]? = some x) (st : List ByteArray) : showRun st (code.drop k) = showRun (st.take (st.length - argsN x.op) ++ [insT x (st.drop (st.length - argsN x.op))]) (code.drop (k + 1)) := by
  rw [drop_next h]; rfl
def sumS (l : List ByteArray) : Nat := (l.map (·.size)).sum
theorem sumS_app (a b : List ByteArray) : sumS (a ++ b) = sumS a + sumS b := by unfold sumS; rw [List.map_append, List.sum_append]
theorem sumS_le {l : List ByteArray} {x : ByteArray} (h : x ∈ l) : x.size ≤ sumS l := by
  induction l with
  | nil => simp at h
  | cons y r ih =>
    have e : sumS (y :: r) = y.size + sumS r := by unfold sumS; simp
    rcases List.mem_cons.1 h with rfl | h
    · omega
    · have := ih h; omega
theorem decX_len : ∀ (n u : Nat), 1 ≤ n → u < 10 ^ n → (Lib.decDigits u).length ≤ n := by
  intro n
  induction n with
  | zero => intro u h; omega
  | succ n ih =>
    intro u _ hu
    rw [Lib.decDigits]
    split
    · simp
    next h =>
      rw [List.length_append, List.length_singleton]
      have hn : 1 ≤ n := by
        rcases Nat.eq_zero_or_pos n with rfl | h2
        · simp at hu; omega
        · exact h2
      have := ih (u / 10) hn (by rw [Nat.pow_succ] at hu; omega)
      omega
theorem big_le : 340282366920938463463374607431768211456 ≤ 10 ^ 39 := by decide +kernel
theorem mag39 {x : WI} (h : x.fit) : x.mag < 10 ^ 39 := Nat.lt_of_lt_of_le (mag_lt h) big_le
theorem textW_len (n : Nat) (b : Bool) (h : (Lib.decDigits n).length ≤ 39) : (⟨(if b = true then 45 :: Lib.decDigits n else Lib.decDigits n).toArray⟩ : ByteArray).size ≤ 40 := by
  cases b
  · simp [ByteArray.size]; omega
  · simp [ByteArray.size]; omega
theorem textW_size {x : WI} (h : x.fit) : (textW x).size ≤ 40 := by
  have h1 : (Lib.decDigits x.mag).length ≤ 39 := decX_len 39 x.mag (by decide) (mag39 h)
  unfold textW
  split
  · exact textW_len _ _ h1
  · exact Nat.zero_le _
theorem size_app (a b : ByteArray) : (a ++ b).size = a.size + b.size := ByteArray.size_append
theorem join_sum (s : UInt8) (l : List ByteArray) : (joinB l s).size ≤ sumS l + l.length := by
  have key : ∀ q : List ByteArray, (Lib.joinTail [s] (q.map (·.data.toList))).length ≤ sumS q + q.length := by
    intro q
    induction q with
    | nil => simp [Lib.joinTail]
    | cons y q ih =>
      have h1 : Lib.joinTail [s] ((y :: q).map (·.data.toList)) = s :: (y.data.toList ++ Lib.joinTail [s] (q.map (·.data.toList))) := rfl
      have e : sumS (y :: q) = y.size + sumS q := by unfold sumS; simp
      have e2 : y.data.toList.length = y.size := Array.length_toList
      rw [h1, List.length_cons, List.length_append, List.length_cons]
      omega
  have e0 : (joinB l s).size = (Lib.join (l.map (·.data.toList)) [s]).length := by unfold joinB; simp [ByteArray.size]
  rw [e0]
  cases l with
  | nil => simp [Lib.join_nil]
  | cons x l =>
    have e : sumS (x :: l) = x.size + sumS l := by unfold sumS; simp
    have e2 : x.data.toList.length = x.size := Array.length_toList
    rw [List.map_cons, Lib.join_cons, List.length_append, List.length_cons]
    have := key l
    omega
theorem ite_sz {c : Prop} [Decidable c] {a b : ByteArray} {n : Nat} (ha : a.size ≤ n) (hb : b.size ≤ n) : (if c then a else b).size ≤ n := by
  split <;> assumption
theorem wordX_size (op : Int) : (wordX op).size ≤ 5 := by
  unfold wordX
  exact ite_sz (by decide) <| ite_sz (by decide) <| ite_sz (by decide) <| ite_sz (by decide) <| ite_sz (by decide) <| ite_sz (by decide) <| ite_sz (by decide) <| ite_sz (by decide) <| ite_sz (by decide) <| ite_sz (by decide) <| ite_sz (by decide) <| ite_sz (by decide) <| ite_sz (by decide) <| by decide
theorem it8_size {n : Int} (h0 : 0 ≤ n) (h1 : n < 8) : (itB n).size ≤ 1 := by
  obtain ⟨i, rfl⟩ := Int.eq_ofNat_of_zero_le h0
  have he : itB (i : Int) = ⟨(Lib.decDigits i).toArray⟩ := by
    unfold itB Lib.itoa
    rw [if_neg (by omega), Int.toNat_natCast]
  rw [he]
  have := decX_len 1 i (by omega) (by omega)
  simpa [ByteArray.size] using this
theorem one_size (b : UInt8) : (⟨#[b]⟩ : ByteArray).size = 1 := rfl
theorem leafT_size {x : Ins} (hx : insB x = true) (hk : x.k.fit) : (leafT x).size ≤ 40 := by
  obtain ⟨ha, hb, _⟩ := insB_a hx
  have h1 := it8_size ha.1 ha.2
  have h2 := it8_size hb.1 hb.2
  unfold leafT
  split
  · simp only [size_app, one_size]; omega
  split
  · simp only [size_app, one_size]; omega
  split
  · simp only [one_size]; omega
  · exact textW_size hk
theorem insT_size {x : Ins} (hx : insB x = true) (hk : x.k.fit) (l : List ByteArray) (hl : l.length ≤ 3) : (insT x l).size ≤ sumS l + 40 := by
  unfold insT
  split
  · have := leafT_size hx hk; omega
  · have h1 := wordX_size x.op
    have h2 := join_sum 44 l
    simp only [size_app, one_size]
    omega

set_option maxRecDepth 20000 in
set_option maxHeartbeats 8000000 in
theorem leaf_text (x : Ins) (hx : insB x = true) (hkf : x.k.fit) (w : World) : Calls Tryz.prog 78 #[InV x] w fun r w' => r = .returned (.string (leafT x)) ∧ Keep (fun _ => False) w w' := by
  obtain ⟨ha, hb, _⟩ := insB_a hx
  obtain ⟨R, hR⟩ : ∃ R, leafT x = R := ⟨_, rfl⟩
  have HRE : Hid ((if x.op = 2 then ⟨#[102]⟩ ++ itB x.a ++ ⟨#[46]⟩ ++ itB x.b else if x.op = 3 then ⟨#[102]⟩ ++ itB x.a ++ ⟨#[64]⟩ else if x.op = 4 then ⟨#[64]⟩ else textW x.k) = R) := hid hR
  rw [hR]
  have HIA := hid (fun w => (it_little x.a ha.1 (by omega) w).2 w (Keep.refl _ _))
  have HIB := hid (fun w => (it_little x.b hb.1 (by omega) w).2 w (Keep.refl _ _))
  have HTX := hid (fun w => w_text x.k hkf w)
  have hsa := it8_size ha.1 ha.2
  have hsb := it8_size hb.1 hb.2
  obtain ⟨w1, hw1, hb1, hs1, hk1⟩ := box1 w (InC x) 66
  have HK1 := hid hk1; have HB1 := hid hb1
  clear hb1 hs1 hk1 hR ha hb hx hkf
  go_enter Tryz.func78, Tryz.ntmps78
  go_upto_region 1 with fail
  rw [← hw1]
  clear hw1
  generalize w.heap.size = sb at *
  have s0 : w1.cell? ⟨sb, 0, none⟩ = some (.int .i64 x.op) := cell_of HB1.out (by rfl)
  have s1 : w1.cell? ⟨sb, 1, none⟩ = some (.int .i64 x.a) := cell_of HB1.out (by rfl)
  have s2 : w1.cell? ⟨sb, 2, none⟩ = some (.int .i64 x.b) := cell_of HB1.out (by rfl)
  have s3 : w1.cell? ⟨sb, 3, none⟩ = some (.bool x.k.neg) := cell_of HB1.out (by rfl)
  have s4 : w1.cell? ⟨sb, 4, none⟩ = some (.int .u64 (x.k.hi : Int)) := cell_of HB1.out (by rfl)
  have s5 : w1.cell? ⟨sb, 5, none⟩ = some (.int .u64 (x.k.lo : Int)) := cell_of HB1.out (by rfl)
  obtain ⟨op, xa, xb, xk⟩ := x
  simp only at HRE HIA HIB HTX hsa hsb s0 s1 s2 s3 s4 s5
  by_cases h2 : op = 2
  · subst h2
    have G : Hid (R = ⟨#[102]⟩ ++ itB xa ++ ⟨#[46]⟩ ++ itB xb) := hid HRE.out.symm
    clear HRE HTX s3 s4 s5
    have y1 : ¬ (9223372036854775807 < 1 + (itB xa).size) := by omega
    have y2 : ¬ (9223372036854775807 < 1 + (itB xa).size + 1) := by omega
    have y3 : ¬ (9223372036854775807 < 1 + (itB xa).size + 1 + (itB xb).size) := by omega
    generalize itB xa = ta at *
    generalize itB xb = tb at *
    go_upto_region 3 with fail
    have HK1 := hid HK1.out.drew; have HB1 : Hid (w1.drew.heap[sb]? = _) := hid HB1.out
    refine Plan.wp_region_pl [(false, 0, []), (false, 1, []), (false, 5, []), (false, 6, []), (true, 2, [6, 5]), (false, 3, []), (false, 4, []), (true, 7, [4, 3]), (false, 8, []), (false, 9, [])] (by as_aux_lemma => kernel_rfl) (by as_aux_lemma => kernel_rfl) ?_
    clear s0 s1 s2
    generalize w1.drew = w2 at *
    have s1 : w2.cell? ⟨sb, 1, none⟩ = some (.int .i64 xa) := cell_of HB1.out (by rfl)
    have s2 : w2.cell? ⟨sb, 2, none⟩ = some (.int .i64 xb) := cell_of HB1.out (by rfl)
    iterate 4 (refine Plan.pl_st rfl ?_; go_big_quiet_step (fail); refine wpQuiet_nil ?_)
    refine Plan.pl_ac rfl ?_
    go_wp2_with fail
    refine (HIA.out _).mono ?_
    rintro r w3 ⟨rfl, hk⟩
    have HK3 := hid (HK1.out.trans hk)
    have HB3 := hid (hk.get HB1.out id)
    clear hk s1 s2
    have s2 : w3.cell? ⟨sb, 2, none⟩ = some (.int .i64 xb) := cell_of HB3.out (by rfl)
    go_wp2
    refine Plan.plQ_mk ?_ ?_
    · iterate 2 (refine Plan.chk_st rfl ?_ ?_; focus (go_big_quiet_step (fail); exact wpQuiet_nil rfl))
      exact Plan.chk_end
    iterate 2 (refine Plan.pl_st rfl ?_; go_big_quiet_step (fail); refine wpQuiet_nil ?_)
    refine Plan.pl_ac rfl ?_
    go_wp2_with fail
    refine (HIB.out _).mono ?_
    rintro r w4 ⟨rfl, hk⟩
    have HK4 := hid (HK3.out.trans hk)
    clear hk s2
    go_wp2
    refine Plan.plQ_mk ?_ ?_
    · iterate 2 (refine Plan.chk_st rfl ?_ ?_; focus (go_big_quiet_step (fail); exact wpQuiet_nil rfl))
      exact Plan.chk_end
    iterate 2 (refine Plan.pl_st rfl ?_; go_big_quiet_step (fail); refine wpQuiet_nil ?_)
    refine Plan.pl_end ?_
    go_wp2
    go_ret
    exact ⟨by rw [G.out]; rfl, HK4.out⟩
  have g2 : (op == 2) = false := beq_eq_false_iff_ne.2 h2
  by_cases h3 : op = 3
  · subst h3
    have G : Hid (R = ⟨#[102]⟩ ++ itB xa ++ ⟨#[64]⟩) := hid HRE.out.symm
    clear HRE HTX s3 s4 s5
    have y1 : ¬ (9223372036854775807 < 1 + (itB xa).size) := by omega
    have y2 : ¬ (9223372036854775807 < 1 + (itB xa).size + 1) := by omega
    generalize itB xa = ta at *
    go_wp2_with fail
    refine (HIA.out _).mono ?_
    rintro r w3 ⟨rfl, hk⟩
    have HK3 := hid (HK1.out.trans hk)
    clear hk s0 s1 s2
    go_wp2
    go_ret
    exact ⟨by rw [G.out]; rfl, HK3.out⟩
  have g3 : (op == 3) = false := beq_eq_false_iff_ne.2 h3
  by_cases h4 : op = 4
  · subst h4
    have G : Hid (R = ⟨#[64]⟩) := hid HRE.out.symm
    clear HRE
    go_wp2
    go_ret
    exact ⟨by rw [G.out]; rfl, HK1.out⟩
  have g4 : (op == 4) = false := beq_eq_false_iff_ne.2 h4
  have G : Hid (R = textW xk) := hid (by rw [← HRE.out, if_neg h2, if_neg h3, if_neg h4])
  clear HRE h2 h3 h4
  go_wp2_with fail
  refine (HTX.out _).mono ?_
  rintro r w3 ⟨rfl, hk⟩
  have HK3 := hid (HK1.out.trans hk)
  clear hk
  go_wp2
  go_ret
  exact ⟨by rw [G.out]; rfl, HK3.out⟩
end Go.Proofs.YtlhdofkgcbmnnaaGreatDoor

namespace Go.Proofs.YtlhdofkgcbmnnaaGreatDoor
open Go.RowKit Go.Proofs.Heap Go.Proofs.Sch Go.Proofs.Wide

def NumsAt (B : Nat) (w : World) (b o : Nat) (x : List WI) : Prop := ∃ p k, w.cell? ⟨b, o, none⟩ = some (.slice p x.length k) ∧ x.length ≤ k ∧ XP w B p x
/-- A row of rows of numbers. -/
def YP (w : World) (B : Nat) (p : Option Addr) (l : List (List WI)) : Prop := RowP 1 (NumsAt B) w B p l
theorem YP.low {w w' : World} {B : Nat} {p : Option Addr} {l : List (List WI)} (h : YP w B p l) (hl : Low B w w') : YP w' B p l :=
  RowP.imp h (Nat.le_refl _) fun b o x hb hx => by
    obtain ⟨q, k, h1, h2, h3⟩ := hx
    exact ⟨q, k, by rw [hl.cell hb]; exact h1, h2, XP.low h3 hl⟩
theorem YP.mono {w : World} {B B' : Nat} {p : Option Addr} {l : List (List WI)} (h : YP w B p l) (hB : B ≤ B') : YP w B' p l :=
  RowP.imp h hB fun b o x hb hx => by
    obtain ⟨q, k, h1, h2, h3⟩ := hx
    exact ⟨q, k, h1, h2, XP.mono h3 hB⟩
theorem YP.at {w : World} {B : Nat} {p : Option Addr} {l : List (List WI)} (h : YP w B p l) {i : Nat} {x : List WI} (hi : l[i]? = some x) : ∃ b off q k, p = some ⟨b, off, none⟩ ∧ b < B ∧ w.cell? ⟨b, off + i, none⟩ = some (.slice q x.length k) ∧ x.length ≤ k ∧ XP w B q x := by
  rcases h with rfl | ⟨b, off, hp, hb, hc⟩
  · simp at hi
  · obtain ⟨q, k, h1, h2, h3⟩ := hc i x hi
    rw [Nat.mul_one] at h1
    exact ⟨b, off, q, k, hp, hb, h1, h2, h3⟩
abbrev EnvV (p : Option Addr) (n c : Nat) (pl : Int) : Value := .agg #[.slice p n c, .int .i64 pl]

end Go.Proofs.YtlhdofkgcbmnnaaGreatDoor

namespace Go.Proofs.YtlhdofkgcbmnnaaGreatDoor
open Go.RowKit Go.Proofs.Heap Go.Proofs.Sch Go.Proofs.Wide

theorem ofM_nat {n : Nat} (h : n < 18446744073709551616) : ofM false n = ⟨false, 0, n⟩ := by
  unfold ofM
  rw [Nat.div_eq_of_lt h, Nat.mod_eq_of_lt h]
  rfl
end Go.Proofs.YtlhdofkgcbmnnaaGreatDoor

namespace Go.Proofs.YtlhdofkgcbmnnaaGreatDoor
open Go.RowKit Go.Proofs.Heap Go.Proofs.Sch Go.Proofs.Wide

def wcl (x : WI) : List Value := [.bool x.neg, .int .u64 (x.hi : Int), .int .u64 (x.lo : Int)]
theorem wcl_len (x : WI) : (wcl x).length = 3 := rfl
theorem xp_own {w : World} {base n : Nat} {e : TypeId} {p : Option Addr} {c : Nat} {l : List WI} (hn : l.length = n) (h : w.ownsRow base e 3 (.slice p n c) n (l.flatMap wcl)) : XP w w.heap.size p l := by
  rcases Nat.eq_zero_or_pos n with h0 | h0
  · exact .inl (List.eq_nil_of_length_eq_zero (by omega))
  · obtain ⟨q, rfl⟩ := owns_some h h0
    refine .inr ⟨q, 0, rfl, (h.lt q (by simp [Value.ownBlock])).2, fun i x hx => ?_⟩
    have e0 := owns3_cell wcl_len h hx (r := 0) (u := .bool x.neg) rfl
    have e1 := owns3_cell wcl_len h hx (r := 1) (u := .int .u64 (x.hi : Int)) rfl
    have e2 := owns3_cell wcl_len h hx (r := 2) (u := .int .u64 (x.lo : Int)) rfl
    rw [Nat.zero_add]
    exact ⟨e0, e1, e2⟩
theorem info_wi : (Tryz.prog.info? 64).map (fun i => (i.zero, i.size, i.bytes)) = some (some (.agg #[.bool false, .int .u64 0, .int .u64 0]), 3, 24) := by kernel_rfl

end Go.Proofs.YtlhdofkgcbmnnaaGreatDoor

namespace Go.Proofs.YtlhdofkgcbmnnaaGreatDoor
open Go.RowKit Go.Proofs.Heap Go.Proofs.Sch Go.Proofs.Wide Go.Proofs.IMap

theorem runW_next {fs : List (List WI)} {pl : Int} {code : List Ins} {k : Nat} {x : Ins} (h : code[k]? = some x) (st : List WI) : runW fs pl st (code.drop k) = if (insW fs pl x (st.drop (st.length - argsN x.op))).2 = 0 then runW fs pl (st.take (st.length - argsN x.op) ++ [(insW fs pl x (st.drop (st.length - argsN x.op))).1]) (code.drop (k + 1)) else ([], (insW fs pl x (st.drop (st.length - argsN x.op))).2) := by
  rw [drop_next h, runW_cons]
theorem flat_take (st : List WI) (m : Nat) : (st.flatMap wcl).take (m * 3) = (st.take m).flatMap wcl := by
  induction st generalizing m with
  | nil => simp
  | cons x r ih =>
    cases m with
    | zero => simp
    | succ m =>
      rw [List.flatMap_cons, List.take_succ_cons, List.flatMap_cons, ← ih m, show (m + 1) * 3 = (wcl x).length + m * 3 by rw [wcl_len]; omega, List.take_length_add_append]

theorem fun_ne (fn : Fn) (first cap : Array Value) (w : World) : (binOp .neq 128 (.func fn first cap) .nilFunc).run Tryz.prog w = .ok (.bool true) w := by kernel_rfl
theorem fun_nil (w : World) : (binOp .neq 128 .nilFunc .nilFunc).run Tryz.prog w = .ok (.bool false) w := by kernel_rfl

end Go.Proofs.YtlhdofkgcbmnnaaGreatDoor

namespace Go.Proofs.YtlhdofkgcbmnnaaGreatDoor
open Go.RowKit Go.Proofs.Heap Go.Proofs.Sch Go.Proofs.Wide Go.Proofs.IMap

/-- Texts that lie in a row, from a place on, joined. -/
theorem join_at (l : List ByteArray) (g m c base : Nat) (w : World) (ho : w.ownsRow base 9 1 (.slice (some ⟨g, 0, none⟩) l.length c) l.length (l.map Value.string)) (hm : m ≤ l.length) (hl : l.length ≤ 1000) (hs : sumS l ≤ 1000000) :
    Calls Tryz.prog 63 #[.slice (some ⟨g, m, none⟩) (l.length - m) (c - m), .string ⟨#[44]⟩] w fun r w' => r = .returned (.string (joinB (l.drop m) 44)) ∧ Keep (fun _ => False) w w' := by
  have hlen : (l.drop m).length = l.length - m := List.length_drop
  have hN : (Lib.join ((l.drop m).map (·.data.toList)) [44]).length ≤ 1002000 := by
    have h1 := join_sum 44 (l.drop m)
    have h2 : (joinB (l.drop m) 44).size = (Lib.join ((l.drop m).map (·.data.toList)) [44]).length := by unfold joinB; simp [ByteArray.size]
    have h3 : sumS l = sumS (l.take m) + sumS (l.drop m) := by rw [← sumS_app, List.take_append_drop]
    omega
  have hcap := owns_cap ho
  have h := Tryz.strings_Join g m (c - m) (l.drop m) ⟨#[44]⟩ w (fun j x hj => by
    have hj' : l[m + j]? = some x := by rw [← hj, List.getElem?_drop]
    have hlt := (List.getElem?_eq_some_iff.1 hj').1
    rw [owns_cell ho hlt, List.getElem?_map, hj']; rfl) ((ho.lt g rfl).2) (by omega) (by omega) (Nat.le_trans hN (by decide))
  rw [hlen] at h
  refine h.mono ?_
  rintro r w' ⟨rfl, hb⟩
  exact ⟨rfl, Keep.of_below hb⟩

set_option maxRecDepth 20000 in
set_option maxHeartbeats 16000000 in
theorem expr_show (code : List Ins) (p : Option Addr) (cap : Nat) (w : World) (hfit : ∀ x ∈ code, x.k.fit) (hf : IP w w.heap.size p code) :
    Calls Tryz.prog 62 #[.slice p code.length cap] w fun r w' => r = .returned (.string (showX code)) ∧ Keep (fun _ => False) w w' := by
  obtain ⟨i0, hi0, hz0, hz1, hz2⟩ := info_parts' info_strT
  obtain ⟨R, hR⟩ : ∃ R, showX code = R := ⟨_, rfl⟩
  have HRE := hid hR
  rw [hR]
  have HX := hid hfit
  have HF := hid (fun (wy : World) (hk : Keep (fun _ => False) w wy) => IP.mono (IP.low hf (Low.keep0 hk)) hk.size)
  clear hf hfit hR
  go_enter Tryz.func62, Tryz.ntmps62
  go_wp2_with fail
  refine (expr_check code p cap w HX.out (HF.out _ (Keep.refl _ _))).mono ?_
  rintro r w2 ⟨rfl, hk⟩
  have HK2 := hid hk
  clear hk
  by_cases hz : exprC code = 0
  rotate_left
  · as_aux_lemma =>
    have G : Hid (R = ⟨#[]⟩) := hid (by rw [← HRE.out]; exact if_neg hz)
    generalize exprC code = e at *
    have g1 : ((e : Int) != 0) = true := by simp only [bne, beq_eq_false_iff_ne.2 (show (e : Int) ≠ 0 by omega)]; rfl
    have g2 : (e != 0) = true := by simp only [bne, beq_eq_false_iff_ne.2 hz]; rfl
    go_wp2
    go_ret
    exact ⟨by rw [G.out]; rfl, HK2.out⟩
  have HCK := hid (exprC_run hz)
  obtain ⟨U, hU⟩ : ∃ U, showRun [] code = U := ⟨_, rfl⟩
  have HU := hid hU
  have HER : Hid (U.getD 0 ⟨#[]⟩ = R) := hid (by rw [← HRE.out, ← hU]; exact (if_pos hz).symm)
  rw [hz]
  clear hz HRE hU
  go_wp2_with fail
  refine (expr_rows _).mono ?_
  rintro r w3 ⟨mb, rfl, hrt, hk⟩
  have HK3 := hid (HK2.out.trans hk)
  have HRT := hid hrt
  clear hk hrt
  go_wp2_with fail
  go_loopw [4, 6, 7, 8, 9, 16] (fun v _ _ _ _ i wr => ∃ (k : Nat) (st : List ByteArray), k ≤ code.length ∧ i = iV k ∧ wr.ownsRow w3.heap.size 9 1 v st.length (st.map Value.string) ∧ sumS st ≤ 40 * k ∧ st.length ≤ 16 ∧ exprRun st.length (code.drop k) = 0 ∧ showRun st (code.drop k) = U ∧ Keep (fun _ => False) w3 wr) (fun _ _ _ _ _ i _ => code.length + 1 - (intOf i).toNat)
  case atStart => exact ⟨0, [], by omega, rfl, World.ownsRow_nil _ _ _ _, by simp [sumS], by simp, HCK.out.2, HU.out, Keep.refl _ _⟩
  case round =>
    obtain ⟨k, st, hk, rfl, how, hsum, h16, her, hru, hkr⟩ := hrel
    obtain ⟨vp, vc, rfl⟩ := owns_val how
    have HO := hid how; have HRN := hid her; have HRU := hid hru; have HKR := hid hkr; have H16 := hid h16; have HSUM := hid hsum
    have HKA := hid (HK3.out.trans hkr)
    clear how her hru hkr hsum
    have hcl : code.length ≤ 64 := HCK.out.1
    have hcl2 : (code.length : Int) ≤ 64 := by omega
    by_cases hlt : k < code.length
    · obtain ⟨x, hxk⟩ : ∃ x, code[k]? = some x := ⟨code[k], by simp [hlt]⟩
      have HNX := hid (showRun_next hxk st)
      have HST := hid (exprRun_step (show exprRun st.length (x :: code.drop (k + 1)) = 0 by rw [← drop_next hxk]; exact HRN.out))
      have HXF := hid (HX.out x (List.mem_of_getElem? hxk))
      have HOP := hid (insB_op HST.out.1)
      obtain ⟨b, off, rfl, hb, c0, c1, c2, c3, c4, c5⟩ := IP.at (HF.out _ HKA.out) hxk
      have hin : (0 : Int) ≤ (k : Int) ∧ (k : Int) < (code.length : Int) := ⟨by omega, by omega⟩
      clear hxk hb
      obtain ⟨op, xa, xb, ⟨kn, kh, kl⟩⟩ := x
      simp only at c0 c1 c2 c3 c4 c5 HNX HST HXF HOP
      obtain ⟨w5, hw5, hb5, hs5, hk5⟩ := box1 wr #[.int .i64 op, .int .i64 xa, .int .i64 xb, .bool kn, .int .u64 (kh : Int), .int .u64 (kl : Int)] 66
      have HXB := hid hb5; have HK5 := hid (HKR.out.trans hk5)
      have HO5 : Hid (w5.ownsRow w3.heap.size 9 1 (.slice vp st.length vc) st.length (st.map Value.string)) := hid (by rw [hw5]; exact HO.out.alloc _)
      have HRX := hid (HRT.out _ HK5.out op HOP.out.1 HOP.out.2)
      clear hb5 hs5 hk5
      go_upto_region 8 with fail
      rw [← hw5]
      clear hw5 c0 c1 c2 c3 c4 c5
      generalize wr.heap.size = xbk at *
      obtain ⟨dv, hlk, hd0, hd1⟩ := HRX.out
      have HD0 := hid hd0
      have HD1 : Hid (argsN op ≠ 0 → ∃ F first cap, dv = .func (.func F) first cap) := hid (fun h => by
        obtain ⟨lo, F, first, cap, e, _⟩ := hd1 h
        exact ⟨F, first, cap, e⟩)
      have s0 : w5.cell? ⟨xbk, 0, none⟩ = some (.int .i64 op) := cell_of HXB.out (by rfl)
      clear hd0 hd1 HRX
      obtain ⟨WD, hWD⟩ : ∃ WD, wordX op = WD := ⟨_, rfl⟩
      have HWD := hid hWD
      rw [hWD] at hlk
      have hws : WD.size ≤ 5 := by rw [← hWD]; exact wordX_size op
      clear hWD
      obtain ⟨w6, hw6, hb6, hs6, hk6⟩ := box1 w5 #[.string WD, dv] 130
      have HDB := hid hb6; have HK6 := hid (HK5.out.trans hk6); have HX6 := hid (hk6.get HXB.out id)
      have HO6 : Hid (w6.ownsRow w3.heap.size 9 1 (.slice vp st.length vc) st.length (st.map Value.string)) := hid (by rw [hw6]; exact HO5.out.alloc _)
      clear hb6 hs6 hk6
      obtain ⟨m, hm⟩ : ∃ m, st.length - argsN op = m := ⟨_, rfl⟩
      rw [hm] at HNX
      have hml : m ≤ st.length := by omega
      have hm1 : (st.length : Int) - (argsN op : Int) = (m : Int) := by have := HST.out.2.1; omega
      have hm2 : wrap64 ((st.length : Int) - (argsN op : Int)) = (m : Int) := by have := H16.out; unfold wrap64; omega
      have HM := hid hm
      clear hm
      obtain ⟨Y, hY⟩ : ∃ Y, insT ⟨op, xa, xb, ⟨kn, kh, kl⟩⟩ (st.drop m) = Y := ⟨_, rfl⟩
      have HYE := hid hY
      have HSP : Hid (sumS st = sumS (st.take m) + sumS (st.drop m)) := hid (by rw [← sumS_app, List.take_append_drop])
      have HYS : Hid (Y.size ≤ sumS (st.drop m) + 40) := hid (by
        rw [← hY]
        exact insT_size HST.out.1 HXF.out _ (by rw [List.length_drop]; have := argsN_le op; have := HM.out; have := HST.out.2.1; omega))
      rw [hY, HRU.out] at HNX
      have HLT := hid (fun w => leaf_text ⟨op, xa, xb, ⟨kn, kh, kl⟩⟩ HST.out.1 HXF.out w)
      clear hY HRU
      by_cases ha : argsN op = 0
      · as_aux_lemma =>
        obtain rfl := HD0.out ha
        obtain rfl : m = st.length := by have := HM.out; omega
        clear HD0 HD1
        go_upto_region 9 with fail
        rw [← hw6]
        clear hw6 hlk s0
        generalize w5.heap.size = dbk at *
        have s0 : w6.cell? ⟨xbk, 0, none⟩ = some (.int .i64 op) := cell_of HX6.out (by rfl)
        have s1 : w6.cell? ⟨xbk, 1, none⟩ = some (.int .i64 xa) := cell_of HX6.out (by rfl)
        have s2 : w6.cell? ⟨xbk, 2, none⟩ = some (.int .i64 xb) := cell_of HX6.out (by rfl)
        have s3 : w6.cell? ⟨xbk, 3, none⟩ = some (.bool kn) := cell_of HX6.out (by rfl)
        have s4 : w6.cell? ⟨xbk, 4, none⟩ = some (.int .u64 (kh : Int)) := cell_of HX6.out (by rfl)
        have s5 : w6.cell? ⟨xbk, 5, none⟩ = some (.int .u64 (kl : Int)) := cell_of HX6.out (by rfl)
        go_wp2_with fail
        refine (args_of ⟨op, xa, xb, ⟨kn, kh, kl⟩⟩ _).mono ?_
        rintro r w7 ⟨rfl, hk7⟩
        have HK7 := hid (HK6.out.trans hk7); have HX7 := hid (hk7.get HX6.out id); have HD7 := hid (hk7.get HDB.out id)
        have HO7 := hid (owns_keep HO6.out (fun j hj => hk7.block j (HO6.out.lt j hj).2 id))
        clear hk7 s0 s1 s2 s3 s4 s5
        have s0 : w7.cell? ⟨xbk, 0, none⟩ = some (.int .i64 op) := cell_of HX7.out (by rfl)
        have s1 : w7.cell? ⟨xbk, 1, none⟩ = some (.int .i64 xa) := cell_of HX7.out (by rfl)
        have s2 : w7.cell? ⟨xbk, 2, none⟩ = some (.int .i64 xb) := cell_of HX7.out (by rfl)
        have s3 : w7.cell? ⟨xbk, 3, none⟩ = some (.bool kn) := cell_of HX7.out (by rfl)
        have s4 : w7.cell? ⟨xbk, 4, none⟩ = some (.int .u64 (kh : Int)) := cell_of HX7.out (by rfl)
        have s5 : w7.cell? ⟨xbk, 5, none⟩ = some (.int .u64 (kl : Int)) := cell_of HX7.out (by rfl)
        go_wp2_with fail
        refine (HLT.out _).mono ?_
        rintro r w8 ⟨rfl, hk8⟩
        have HK8 := hid (HK7.out.trans hk8); have HD8 := hid (hk8.get HD7.out id)
        have HO8 := hid (owns_keep HO7.out (fun j hj => hk8.block j (HO7.out.lt j hj).2 id))
        clear hk8 s0 s1 s2 s3 s4 s5
        have d1 : w8.cell? ⟨dbk, 1, none⟩ = some .nilFunc := cell_of HD8.out (by rfl)
        have hne := fun_nil w8
        have HLF : Hid (leafT ⟨op, xa, xb, ⟨kn, kh, kl⟩⟩ = Y) := hid (by rw [← HYE.out]; unfold insT; rw [if_pos ha])
        rw [HLF.out]
        go_upto_region 13 with fail
        clear d1 hne
        have HKA2 := hid HK8.out; have HOA := hid HO8.out
        obtain ⟨wA, hwA⟩ : ∃ wA, w8 = wA := ⟨_, rfl⟩
        rw [hwA] at HKA2 HOA ⊢
        clear hwA
        focus
          have hmcN : st.length ≤ vc := by have := owns_cap HOA.out; omega
          have hmc : (st.length : Int) ≤ (vc : Int) := by omega
          have hm0 : (0 : Int) ≤ (st.length : Int) := by omega
          have HOT := hid (owns_takeN HOA.out hml)
          rw [Nat.mul_one, ← List.map_take] at HOT
          have hll : (st.take st.length ++ [Y]).length = st.length + 1 := by rw [List.length_append, List.length_take, Nat.min_eq_left hml]; rfl
          have HLL := hid hll
          clear hll
          obtain ⟨wb, hwb, hbb, hsb, hkb⟩ := box1 wA #[.string Y] 9
          have HBB := hid hbb; have HKB := hid (HKA2.out.trans hkb)
          have HOB := hid (owns_keep HOT.out (fun j hj => hkb.block j (HOT.out.lt j hj).2 id))
          have HBSZ := hid hsb
          clear hbb hsb hkb
          go_wp2_with (at_builtin; go_loud (rw [← hwb]; refine wpList_append_rd rfl _ _ _ rfl w3.heap.size _ i0 _ 1 16 Tryz.underlying55 hi0 hz0 hz1 hz2 rfl (by decide) _ st.length _ (by rfl) HOB.out _ 1 [.string Y] (by rfl) (rd_block HBB.out (by simp) (by simp [Value.oneCell'])) (by unfold maxLen; have := H16.out; omega) (by have := H16.out; omega) HKB.out.size ?_); go_loud (intro v' wz hown hgrow hat hn5; obtain ⟨vq, vd, rfl⟩ := owns_val hown; have HOZ := hid hown; have HKZ := hid (Keep.grown HKB.out hgrow (fun k hk => .inl (HOB.out.lt k hk).1)); clear hown hgrow hat hn5 hwb))
          go_wp2
          go_roundw
          case rel =>
            refine ⟨k + 1, st.take st.length ++ [Y], by omega, by go_num, ?_, ?_, ?_, ?_, ?_, HKZ.out⟩
            · rw [HLL.out, List.map_append]
              have h := HOZ.out
              simpa using h
            · rw [sumS_app]
              have h1 : sumS [Y] = Y.size := by simp [sumS]
              have := HSUM.out; have := HSP.out; have := HYS.out
              omega
            · rw [HLL.out]; have := HST.out.2.2.1; have := HM.out; omega
            · rw [HLL.out, ← HM.out]; exact HST.out.2.2.2
            · exact HNX.out.symm
          case measure => simp [intOf]; omega
      · as_aux_lemma =>
        obtain ⟨F, first, cap2, rfl⟩ := HD1.out ha
        clear HD0 HD1
        go_upto_region 9 with fail
        rw [← hw6]
        clear hw6 hlk s0
        generalize w5.heap.size = dbk at *
        have s0 : w6.cell? ⟨xbk, 0, none⟩ = some (.int .i64 op) := cell_of HX6.out (by rfl)
        have s1 : w6.cell? ⟨xbk, 1, none⟩ = some (.int .i64 xa) := cell_of HX6.out (by rfl)
        have s2 : w6.cell? ⟨xbk, 2, none⟩ = some (.int .i64 xb) := cell_of HX6.out (by rfl)
        have s3 : w6.cell? ⟨xbk, 3, none⟩ = some (.bool kn) := cell_of HX6.out (by rfl)
        have s4 : w6.cell? ⟨xbk, 4, none⟩ = some (.int .u64 (kh : Int)) := cell_of HX6.out (by rfl)
        have s5 : w6.cell? ⟨xbk, 5, none⟩ = some (.int .u64 (kl : Int)) := cell_of HX6.out (by rfl)
        go_wp2_with fail
        refine (args_of ⟨op, xa, xb, ⟨kn, kh, kl⟩⟩ _).mono ?_
        rintro r w7 ⟨rfl, hk7⟩
        have HK7 := hid (HK6.out.trans hk7); have HX7 := hid (hk7.get HX6.out id); have HD7 := hid (hk7.get HDB.out id)
        have HO7 := hid (owns_keep HO6.out (fun j hj => hk7.block j (HO6.out.lt j hj).2 id))
        clear hk7 s0 s1 s2 s3 s4 s5
        have s0 : w7.cell? ⟨xbk, 0, none⟩ = some (.int .i64 op) := cell_of HX7.out (by rfl)
        have s1 : w7.cell? ⟨xbk, 1, none⟩ = some (.int .i64 xa) := cell_of HX7.out (by rfl)
        have s2 : w7.cell? ⟨xbk, 2, none⟩ = some (.int .i64 xb) := cell_of HX7.out (by rfl)
        have s3 : w7.cell? ⟨xbk, 3, none⟩ = some (.bool kn) := cell_of HX7.out (by rfl)
        have s4 : w7.cell? ⟨xbk, 4, none⟩ = some (.int .u64 (kh : Int)) := cell_of HX7.out (by rfl)
        have s5 : w7.cell? ⟨xbk, 5, none⟩ = some (.int .u64 (kl : Int)) := cell_of HX7.out (by rfl)
        go_wp2_with fail
        refine (HLT.out _).mono ?_
        rintro r w8 ⟨rfl, hk8⟩
        have HK8 := hid (HK7.out.trans hk8); have HD8 := hid (hk8.get HD7.out id)
        have HO8 := hid (owns_keep HO7.out (fun j hj => hk8.block j (HO7.out.lt j hj).2 id))
        clear hk8 s0 s1 s2 s3 s4 s5
        have d1 : w8.cell? ⟨dbk, 1, none⟩ = some (.func (.func F) first cap2) := cell_of HD8.out (by rfl)
        have hne := fun_ne (.func F) first cap2 w8
        generalize leafT ⟨op, xa, xb, ⟨kn, kh, kl⟩⟩ = LT at *
        go_upto_region 12 with fail
        have hn3 : m + argsN op = st.length := by have := HST.out.2.1; have := HM.out; omega
        obtain ⟨g, rfl⟩ := owns_some HO8.out (by omega)
        have hnc : (st.length : Int) ≤ (vc : Int) := by have := owns_cap HO8.out; omega
        have hmn : (m : Int) ≤ (st.length : Int) := by omega
        have hm0 : (0 : Int) ≤ (m : Int) := by omega
        have HYJ : Hid (WD ++ ⟨#[40]⟩ ++ joinB (st.drop m) 44 ++ ⟨#[41]⟩ = Y) := hid (by rw [← HYE.out, ← HWD.out]; unfold insT; rw [if_neg ha])
        have HJS : Hid ((joinB (st.drop m) 44).size ≤ 4000) := hid (by
          have h1 := join_sum 44 (st.drop m)
          have h2 : (st.drop m).length ≤ 16 := by rw [List.length_drop]; have := H16.out; omega
          have := HSP.out; have := HSUM.out
          omega)
        have HK8 := hid HK8.out.drew; have HD8 : Hid (w8.drew.heap[dbk]? = _) := hid HD8.out
        have HO8 := hid (owns_keep (w' := w8.drew) HO8.out (fun _ _ => rfl))
        refine Plan.wp_region_pl [(false, 0, []), (false, 1, []), (false, 2, []), (false, 3, []), (false, 4, []), (false, 5, []), (true, 6, [2, 1, 0]), (false, 7, []), (false, 8, []), (false, 9, [])] (by as_aux_lemma => kernel_rfl) (by as_aux_lemma => kernel_rfl) ?_
        clear d1 hne
        generalize w8.drew = w9 at *
        have HJN := hid (join_at st g m vc w3.heap.size w9 HO8.out hml (by have := H16.out; omega) (by have := HSUM.out; omega))
        generalize joinB (st.drop m) 44 = J at *
        have d0 : w9.cell? ⟨dbk, 0, none⟩ = some (.string WD) := cell_of HD8.out (by rfl)
        have y1 : ¬ (9223372036854775807 < WD.size + 1) := by omega
        have y2 : ¬ (9223372036854775807 < WD.size + 1 + J.size) := by have := HJS.out; omega
        have y3 : ¬ (9223372036854775807 < WD.size + 1 + J.size + 1) := by have := HJS.out; omega
        iterate 6 (refine Plan.pl_st rfl ?_; go_big_quiet_step (fail); refine wpQuiet_nil ?_)
        refine Plan.pl_ac rfl ?_
        go_wp2_with fail
        refine HJN.out.mono ?_
        rintro r wA ⟨rfl, hk⟩
        have HKA2 := hid (HK8.out.trans hk); have HDA := hid (hk.get HD8.out id)
        have HOA := hid (owns_keep HO8.out (fun j hj => hk.block j (HO8.out.lt j hj).2 id))
        clear hk d0
        have d0 : wA.cell? ⟨dbk, 0, none⟩ = some (.string WD) := cell_of HDA.out (by rfl)
        go_wp2
        refine Plan.plQ_mk ?_ ?_
        · iterate 3 (refine Plan.chk_st rfl ?_ ?_; focus (go_big_quiet_step (fail); exact wpQuiet_nil rfl))
          exact Plan.chk_end
        iterate 3 (refine Plan.pl_st rfl ?_; go_big_quiet_step (fail); refine wpQuiet_nil ?_)
        refine Plan.pl_end ?_
        clear d0
        rw [HYJ.out]
        focus
          have hmcN : m ≤ vc := by have := owns_cap HOA.out; omega
          have hmc : (m : Int) ≤ (vc : Int) := by omega
          have hm0 : (0 : Int) ≤ (m : Int) := by omega
          have HOT := hid (owns_takeN HOA.out hml)
          rw [Nat.mul_one, ← List.map_take] at HOT
          have hll : (st.take m ++ [Y]).length = m + 1 := by rw [List.length_append, List.length_take, Nat.min_eq_left hml]; rfl
          have HLL := hid hll
          clear hll
          obtain ⟨wb, hwb, hbb, hsb, hkb⟩ := box1 wA #[.string Y] 9
          have HBB := hid hbb; have HKB := hid (HKA2.out.trans hkb)
          have HOB := hid (owns_keep HOT.out (fun j hj => hkb.block j (HOT.out.lt j hj).2 id))
          have HBSZ := hid hsb
          clear hbb hsb hkb
          go_wp2_with (at_builtin; go_loud (rw [← hwb]; refine wpList_append_rd rfl _ _ _ rfl w3.heap.size _ i0 _ 1 16 Tryz.underlying55 hi0 hz0 hz1 hz2 rfl (by decide) _ m _ (by rfl) HOB.out _ 1 [.string Y] (by rfl) (rd_block HBB.out (by simp) (by simp [Value.oneCell'])) (by unfold maxLen; have := H16.out; omega) (by have := H16.out; omega) HKB.out.size ?_); go_loud (intro v' wz hown hgrow hat hn5; obtain ⟨vq, vd, rfl⟩ := owns_val hown; have HOZ := hid hown; have HKZ := hid (Keep.grown HKB.out hgrow (fun k hk => .inl (HOB.out.lt k hk).1)); clear hown hgrow hat hn5 hwb))
          go_wp2
          go_roundw
          case rel =>
            refine ⟨k + 1, st.take m ++ [Y], by omega, by go_num, ?_, ?_, ?_, ?_, ?_, HKZ.out⟩
            · rw [HLL.out, List.map_append]
              have h := HOZ.out
              simpa using h
            · rw [sumS_app]
              have h1 : sumS [Y] = Y.size := by simp [sumS]
              have := HSUM.out; have := HSP.out; have := HYS.out
              omega
            · rw [HLL.out]; have := HST.out.2.2.1; have := HM.out; omega
            · rw [HLL.out, ← HM.out]; exact HST.out.2.2.2
            · exact HNX.out.symm
          case measure => simp [intOf]; omega
    · as_aux_lemma =>
      obtain rfl : k = code.length := by omega
      have hl1 : st.length = 1 := exprRun_end (by have := HRN.out; rwa [List.drop_length] at this)
      obtain ⟨y, rfl⟩ := List.length_eq_one_iff.1 hl1
      have HUE : Hid (U = [y]) := hid (by rw [← HRU.out, List.drop_length]; rfl)
      have g0 : decide ((code.length : Int) < (code.length : Int)) = false := decide_eq_false (by omega)
      obtain ⟨g, rfl⟩ := owns_some HO.out (by simp)
      have a0 : wr.cell? ⟨g, 0, none⟩ = some (.string y) := (owns_cell HO.out (k := 0) (by simp)).trans rfl
      have G : Hid (R = y) := hid (by rw [← HER.out, HUE.out]; rfl)
      clear hl1 hlt
      go_wp2
      go_ret
      exact ⟨by rw [G.out]; rfl, HKA.out⟩
end Go.Proofs.YtlhdofkgcbmnnaaGreatDoor

namespace Go.Proofs.YtlhdofkgcbmnnaaGreatDoor
open Go.RowKit Go.Proofs.Heap Go.Proofs.Sch Go.Proofs.Wide

section
variable {P : Program} {ops : Array Oper}
theorem quiet_eql_g {Q : Act → Prop} {rest : List Oper} {a : Act} {o : Oper} {w : World} (hgd : Region.wanted o (yielded ops a.tmps) = true) (t u : TypeId) (x y : Operand) (xs ys : Array Value) (b : Bool) (ho : o.op = .binOp .eql t x y u) (hx : a.eval x = .agg xs) (hy : a.eval y = .agg ys)
    (hm : P.eqGuardType P.depth t = false) (hl : (binOp .eql t (.agg xs) (.agg ys)).run P w = .ok (.bool b) w) (h : wpQuiet P ops (fun w' => w' = w) Q rest (a.put o.dst (.bool b))) : wpQuiet P ops (fun w' => w' = w) Q (o :: rest) a := by
  refine BigFrame.wpQuiet_want hgd fun K hK => ⟨.bool b, fun w' hw' => ?_, hK _ h⟩
  subst hw'
  have hg := fun (o1 o2 : Operand) => run_eqGuard_agg (P := P) (w := w') .eql t o1 o2 xs ys hm
  unfold Oper.quietAt execOp
  simp [ho, hx, hy, hl, hg]
  exact ⟨rfl, rfl⟩
end
theorem smp_eqH (w : World) : (binOp .eql 66 (.agg #[.int .i64 3, .int .i64 3, .int .i64 0, .bool false, .int .u64 0, .int .u64 0]) (.agg #[.int .i64 3, .int .i64 3, .int .i64 0, .bool false, .int .u64 0, .int .u64 0])).run Tryz.prog w = .ok (.bool true) w := by kernel_rfl
theorem smp_eqI (w : World) : (binOp .eql 64 (.agg #[.bool false, .int .u64 0, .int .u64 42]) (.agg #[.bool false, .int .u64 0, .int .u64 42])).run Tryz.prog w = .ok (.bool true) w := by kernel_rfl
abbrev smpC : List Ins := [⟨2, 0, 0, zW⟩, ⟨1, 0, 0, ⟨false, 0, 2⟩⟩, ⟨7, 0, 0, zW⟩]
abbrev smpN : List Ins := [⟨1, 0, 0, zW⟩, ⟨1, 0, 0, zW⟩, ⟨17, 0, 0, zW⟩]
abbrev smpH : List Ins := [⟨3, 3, 0, zW⟩]
theorem smp_eval : evalW [[⟨false, 0, 21⟩]] 0 smpC = (⟨false, 0, 42⟩, 0) := by decide +kernel
theorem smp_range : evalW [] 0 smpC = (zW, 3) := by decide +kernel
theorem smp_need : evalW [] 0 smpN = (zW, 9) := by decide +kernel
theorem smp_fitC : ∀ x ∈ smpC, x.k.fit := by
  intro x hx
  simp only [smpC, List.mem_cons, List.not_mem_nil, or_false] at hx
  rcases hx with rfl | rfl | rfl
  · exact zW_fit
  · exact ⟨by decide, by decide⟩
  · exact zW_fit
theorem smp_fitN : ∀ x ∈ smpN, x.k.fit := by
  intro x hx
  simp only [smpN, List.mem_cons, List.not_mem_nil, or_false] at hx
  rcases hx with rfl | rfl | rfl <;> exact zW_fit
theorem smp_fitH : ∀ x ∈ smpH, x.k.fit := by
  intro x hx; obtain rfl := List.mem_singleton.1 hx; exact zW_fit
theorem smp_encC : encC smpH = 0 := by
  refine encC_of (by decide +kernel) ?_
  decide +kernel
theorem smp_enc : expS smpH = ⟨#[1, 3, 3]⟩ := by
  unfold expS
  rw [if_pos smp_encC]
  decide +kernel
theorem smp_dec : decX ⟨#[1, 3, 3]⟩ = smpH ∧ decEX ⟨#[1, 3, 3]⟩ = 0 := by
  have h := decX_enc smp_encC (smp_fitH)
  rw [smp_enc] at h
  exact h
theorem smp_it0 : itB 0 = ⟨#[48]⟩ := by unfold itB Lib.itoa; rw [if_neg (by decide)]; rw [show (0 : Int).toNat = 0 from rfl, Lib.decDigits_one (by decide)]; rfl
theorem smp_t2 : textW ⟨false, 0, 2⟩ = ⟨#[50]⟩ := by
  have hd : Lib.decDigits (WI.mag ⟨false, 0, 2⟩) = [50] := by
    rw [show WI.mag ⟨false, 0, 2⟩ = 2 by decide, Lib.decDigits_one (by decide)]; rfl
  unfold textW
  rw [if_pos (by decide)]
  simp only [hd]
  rfl
theorem smp_show : showX smpC = ⟨#[109, 117, 108, 40, 102, 48, 46, 48, 44, 50, 41]⟩ := by
  have e1 : leafT ⟨2, 0, 0, zW⟩ = ⟨#[102, 48, 46, 48]⟩ := by
    show (⟨#[102]⟩ ++ itB 0 ++ ⟨#[46]⟩ ++ itB 0 : ByteArray) = _
    rw [smp_it0]; decide +kernel
  have e2 : leafT ⟨1, 0, 0, ⟨false, 0, 2⟩⟩ = ⟨#[50]⟩ := smp_t2
  have e3 : showRun [] smpC = [insT ⟨7, 0, 0, zW⟩ [leafT ⟨2, 0, 0, zW⟩, leafT ⟨1, 0, 0, ⟨false, 0, 2⟩⟩]] := rfl
  unfold showX
  rw [if_pos (by decide +kernel), e3, e1, e2]
  decide +kernel
theorem smp_uses : usesL smpC = [⟨2, 0, 0, zW⟩] := by rfl
theorem ip3 {w : World} {g : Nat} {x y z : Ins} (h : w.heap[g]? = some (.cells ((icl x ++ icl y ++ icl z).toArray) 66 (0, 0))) : IP w w.heap.size (some ⟨g, 0, none⟩) [x, y, z] := by
  refine .inr ⟨g, 0, rfl, lt_of_heap h, fun i u hx => ?_⟩
  match i, hx with
  | 0, hx => injection hx with hx; subst hx; exact ⟨cell_of h rfl, cell_of h rfl, cell_of h rfl, cell_of h rfl, cell_of h rfl, cell_of h rfl⟩
  | 1, hx => injection hx with hx; subst hx; exact ⟨cell_of h rfl, cell_of h rfl, cell_of h rfl, cell_of h rfl, cell_of h rfl, cell_of h rfl⟩
  | 2, hx => injection hx with hx; subst hx; exact ⟨cell_of h rfl, cell_of h rfl, cell_of h rfl, cell_of h rfl, cell_of h rfl, cell_of h rfl⟩
  | j + 3, hx => simp at hx
theorem ip1 {w : World} {g : Nat} {x : Ins} (h : w.heap[g]? = some (.cells ((icl x).toArray) 66 (0, 0))) : IP w w.heap.size (some ⟨g, 0, none⟩) [x] := by
  refine .inr ⟨g, 0, rfl, lt_of_heap h, fun i u hx => ?_⟩
  match i, hx with
  | 0, hx => injection hx with hx; subst hx; exact ⟨cell_of h rfl, cell_of h rfl, cell_of h rfl, cell_of h rfl, cell_of h rfl, cell_of h rfl⟩
  | j + 1, hx => simp at hx
theorem yp_one {w : World} {g h c : Nat} {x : WI} (hh : w.heap[h]? = some (.cells #[.slice (some ⟨g, 0, none⟩) 1 c] 150 (0, 0))) (hc : 1 ≤ c) (hg : w.heap[g]? = some (.cells (WC x) 64 (0, 0))) : YP w w.heap.size (some ⟨h, 0, none⟩) [[x]] := by
  refine .inr ⟨h, 0, rfl, lt_of_heap hh, fun i u hx => ?_⟩
  match i, hx with
  | 0, hx =>
    injection hx with hx; subst hx
    refine ⟨some ⟨g, 0, none⟩, c, cell_of hh rfl, hc, .inr ⟨g, 0, rfl, lt_of_heap hg, fun j v hv => ?_⟩⟩
    match j, hv with
    | 0, hv => injection hv with hv; subst hv; exact ⟨cell_of hg rfl, cell_of hg rfl, cell_of hg rfl⟩
    | j + 1, hv => simp at hv
  | j + 1, hx => simp at hx

end Go.Proofs.YtlhdofkgcbmnnaaGreatDoor
