/- What is proved: what is found in a row of components by a closure. -/
import Derived.Test.YtlhdofkgcbmnnaaGreatMChk3
import Derived.Test.YtlhdofkgcbmnnaaGreatMHeap
import Derived.Test.YtlhdofkgcbmnnaaGreatMMapStr
import Derived.Laws.BitsAllLaws
import Derived.Deep.Cut
import Derived.Deep.CutRange
import Derived.Deep.CutBlock
import Derived.Laws.CopyRow
import Derived.Laws.MakeOwn
import Derived.Test.YtlhdofkgcbmnnaaGreatMLay
namespace Go.Proofs.YtlhdofkgcbmnnaaGreat
open Go.RowKit Go.Proofs.Heap Go.Proofs.Sch

theorem find_clo (c : Cmp) (fq : Option Addr) (fk cb : Nat) (id : Int) (w : World) (hc : w.cell? ⟨cb, 0, none⟩ = some (.int .i64 id)) :
    Calls Tryz.prog 93 #[.agg #[.int .i64 c.id, .string c.name, .slice fq c.fs.length fk], .pointer (some ⟨cb, 0, none⟩)] w fun r w' => r = .returned (.bool (decide (c.id = id))) ∧ Keep (fun _ => False) w w' := by
  have hk := (Keep.refl (fun _ => False) w).alloc (.cells #[.int .i64 c.id, .string c.name, .slice fq c.fs.length fk] 24)
  have HK := hid hk
  have hlt := World.block_lt_of_cell? w _ hc
  have hc2 := ((Low.keep0 hk).cell (o := 0) hlt).trans hc
  have HD : Hid ((c.id == id) = decide (c.id = id)) := hid (by cases h : decide (c.id = id) <;> simp_all)
  clear hk
  go_enter Tryz.func93, Tryz.ntmps93
  go_wp2
  go_ret
  exact ⟨by first | rfl | (rw [← HD.out]; rfl), HK.out⟩

set_option maxRecDepth 20000 in
set_option maxHeartbeats 2000000 in
theorem idx_find (id : Int) (cb : Nat) (cs : List Cmp) (p : Option Addr) (cap : Nat) (w : World) (hl : cs.length ≤ 2932031007402) (hf : CP w w.heap.size p cs) (hc : w.cell? ⟨cb, 0, none⟩ = some (.int .i64 id)) :
    Calls Tryz.prog 137 #[.slice p cs.length cap, .func (.func 93) #[] #[.pointer (some ⟨cb, 0, none⟩)]] w fun r w' => r = .returned (.int .i64 (idxI (fun c => decide (c.id = id)) cs)) ∧ Keep (fun _ => False) w w' := by
  have HF := hid hf
  have HQ : Hid (∀ (c : Cmp) (fq : Option Addr) (fk : Nat) (wy : World), Keep (fun _ => False) w wy → Calls Tryz.prog 93 #[.agg #[.int .i64 c.id, .string c.name, .slice fq c.fs.length fk], .pointer (some ⟨cb, 0, none⟩)] wy fun r w' => r = .returned (.bool ((fun c => decide (c.id = id)) c)) ∧ Keep (fun _ => False) wy w') :=
    hid (fun c fq fk wy hk => find_clo c fq fk cb _ wy (((Low.keep0 hk).cell (o := 0) (World.block_lt_of_cell? w _ hc)).trans hc))
  obtain ⟨q, hqe⟩ : ∃ q : Cmp → Bool, q = (fun c => decide (c.id = id)) := ⟨_, rfl⟩
  have HQE := hid hqe
  rw [← hqe] at HQ
  rw [← hqe]
  clear hf hc hqe
  go_enter Tryz.func137, Tryz.ntmps137
  go_wp2_with fail
  go_loopw [5, 8] (fun _ i wr => ∃ k : Nat, k ≤ cs.length ∧ i = iV k ∧ Keep (fun _ => False) w wr ∧ ∀ c ∈ cs.take k, q c = false) (fun _ i _ => cs.length + 1 - (intOf i).toNat)
  case atStart => exact ⟨0, by omega, rfl, Keep.refl _ _, by simp⟩
  case round =>
    obtain ⟨k, hk, rfl, hkeep, hall⟩ := hrel
    have HK := hid hkeep; have HA := hid hall
    clear hkeep hall
    by_cases hlt : k < cs.length
    · obtain ⟨c, hck⟩ : ∃ c, cs[k]? = some c := ⟨cs[k], by simp [hlt]⟩
      obtain ⟨b, off, fq, fk, rfl, hb, c0, c1, c2, _, hff⟩ := CP.at (CP.low HF.out (Low.keep0 HK.out)) hck
      have hin : (0 : Int) ≤ (k : Int) ∧ (k : Int) < (cs.length : Int) := ⟨by omega, by omega⟩
      have HCK := hid hck
      clear hck hff
      go_wp2_with fail
      refine (HQ.out c fq fk _ HK.out).mono ?_
      rintro r w1 ⟨rfl, hk1⟩
      have HK1 := hid (HK.out.trans hk1)
      clear hk1
      cases hqc : q c
      · have HN : Hid (∀ d ∈ cs.take (k + 1), q d = false) := hid (fun d hd => by
          rw [take_next HCK.out] at hd
          rcases List.mem_append.1 hd with h | h
          · exact HA.out d h
          · rw [List.mem_singleton.1 h]; exact hqc)
        clear hqc
        go_wp2
        go_roundw
        case rel => exact ⟨k + 1, by omega, by go_num, HK1.out, HN.out⟩
        case measure => simp [intOf]; omega
      · have G3 := hid (idx_at HCK.out hqc HA.out)
        clear hqc
        go_wp2
        go_ret
        exact ⟨by rw [G3.out]; rfl, HK1.out⟩
    · obtain rfl : k = cs.length := by omega
      have G3 := hid (idx_none (q := q) (l := cs) (by have := HA.out; rwa [List.take_length] at this))
      go_wp2
      go_ret
      exact ⟨by rw [G3.out]; rfl, HK.out⟩

end Go.Proofs.YtlhdofkgcbmnnaaGreat

namespace Go.Proofs.YtlhdofkgcbmnnaaGreat
open Go.RowKit Go.Proofs.Heap Go.Proofs.Sch

theorem sig_is (n : Nat) (hn : n < 4294967296) (w : World) : Calls Tryz.prog 22 #[.int .u32 (n : Int)] w fun r w' => r = .returned (.bool (isSig n)) ∧ w = w' := by
  have hb : bits .andNot .u32 (n : Int) 33554430 = ((n &&& (4294967295 - 33554430) : Nat) : Int) := u32_andNot_nat n 33554430 hn (by omega)
  have G : Hid ((((n &&& (4294967295 - 33554430) : Nat) : Int) == 0) = isSig n) := hid (by
    unfold isSig
    rw [show 4294967295 - 33554430 = 4261412865 from rfl]
    generalize n &&& 4261412865 = m
    by_cases h : m = 0
    · subst h; rfl
    · rw [beq_eq_false_iff_ne.2 (by omega), decide_eq_false h])
  generalize n &&& (4294967295 - 33554430) = m at *
  go_enter Tryz.func22, Tryz.ntmps22
  go_wp2
  go_ret
  exact ⟨by rw [← G.out]; rfl, rfl⟩
/-- Where a string is in a row. -/
def idxS (s : ByteArray) (l : List ByteArray) : Int := idxI (fun t => decide (s = t)) l
def memS (s : ByteArray) (l : List ByteArray) : Bool := l.any (fun t => decide (s = t))
theorem idx_has (s : ByteArray) (l : List ByteArray) : decide (0 ≤ idxS s l) = memS s l := by
  unfold idxS idxI memS
  cases h : l.findIdx? (fun t => decide (s = t)) with
  | none =>
    rw [List.findIdx?_eq_none_iff] at h
    have : l.any (fun t => decide (s = t)) = false := by
      rw [List.any_eq_false]
      intro t ht
      rw [h t ht]; simp
    rw [this]; rfl
  | some i =>
    rw [List.findIdx?_eq_some_iff_getElem] at h
    obtain ⟨hi, hq, _⟩ := h
    have : l.any (fun t => decide (s = t)) = true := List.any_eq_true.2 ⟨l[i], List.getElem_mem hi, hq⟩
    rw [this]
    exact decide_eq_true (Int.natCast_nonneg i)
end Go.Proofs.YtlhdofkgcbmnnaaGreat

namespace Go.Proofs.YtlhdofkgcbmnnaaGreat
open Go.RowKit Go.Proofs.Heap Go.Proofs.Sch

def afterAt (name : ByteArray) (l : List ByteArray) (i : Nat) : Bool := match l[i]? with
  | some t => nameB t && (!decide (t = name) && !memS t (l.take i))
  | none => true
def afterC (name : ByteArray) (l : List ByteArray) : Nat := if 4 < l.length then 5 else if (List.range l.length).all (afterAt name l) = true then 0 else 4
/-- A system's cells, its rows at these places. -/
abbrev SysC (s : VSys) (pa : Option Addr) (ca : Nat) (pc : Option Addr) (cc : Nat) : Array Value := #[.string s.name, .int .i64 s.stage, .slice pa s.after.length ca, .int .u32 (s.all : Int), .int .u32 (s.none : Int), .slice pc s.code.length cc]
abbrev SysV (s : VSys) (pa : Option Addr) (ca : Nat) (pc : Option Addr) (cc : Nat) : Value := .agg #[.string s.name, .int .i64 s.stage, .slice pa s.after.length ca, .int .u32 (s.all : Int), .int .u32 (s.none : Int), .slice pc s.code.length cc]
theorem TP.take {w : World} {B : Nat} {p : Option Addr} {l : List ByteArray} (h : TP w B p l) (k : Nat) : TP w B p (l.take k) := by
  rcases h with rfl | ⟨b, off, hp, hb, hc⟩
  · exact .inl (by simp)
  · refine .inr ⟨b, off, hp, hb, fun i x hi => hc i x ?_⟩
    by_cases hik : i < k
    · rwa [List.getElem?_take_of_lt hik] at hi
    · rw [List.getElem?_eq_none (by rw [List.length_take]; omega)] at hi; cases hi

end Go.Proofs.YtlhdofkgcbmnnaaGreat

namespace Go.Proofs.YtlhdofkgcbmnnaaGreat
open Go.RowKit Go.Proofs.Heap Go.Proofs.Sch

theorem idx_bad (m : Nat) (l : List VOp) : decide (0 ≤ idxI (fun x => !goodOp m x) l) = !l.all (goodOp m) := by
  unfold idxI
  cases h : l.findIdx? (fun x => !goodOp m x) with
  | none =>
    rw [List.findIdx?_eq_none_iff] at h
    have : l.all (goodOp m) = true := by
      rw [List.all_eq_true]
      intro t ht
      have := h t ht
      simpa using this
    rw [this]; rfl
  | some i =>
    rw [List.findIdx?_eq_some_iff_getElem] at h
    obtain ⟨hi, hq, _⟩ := h
    have : l.all (goodOp m) = false := List.all_eq_false.2 ⟨l[i], List.getElem_mem hi, by simpa using hq⟩
    rw [this]
    exact decide_eq_true (Int.natCast_nonneg i)
/-- The error of a system. -/
def sysC (s : VSys) : Nat :=
  if nameB s.name = false then 4 else if s.stage < 0 ∨ 9 < s.stage then 1 else if afterC s.name s.after ≠ 0 then afterC s.name s.after
  else if (isSig s.all && isSig s.none) = false then 1 else if meetsB s.all s.none = true then 7 else if 64 < s.code.length then 5
  else if s.code.all (goodOp s.code.length) = true then 0 else 4

end Go.Proofs.YtlhdofkgcbmnnaaGreat

namespace Go.Proofs.YtlhdofkgcbmnnaaGreat
open Go.RowKit Go.Proofs.Heap Go.Proofs.Sch

theorem wr64 (n : Int) (h0 : 0 ≤ n) (h1 : n < 2 ^ 64) : IntKind.u64.wrap n = n := by
  have : IntKind.u64.wrap n = n % 18446744073709551616 := by simp [IntKind.wrap, IntKind.bits, IntKind.signed]
  omega
theorem results_2 {fn : Func} {p u : Tmp} (h : fn.results = #[.tmp p, .tmp u]) (tmps : Array Value) {P : Program} {w : World} : (results fn tmps).run P w = .ok (.tuple #[tmps.getD p undef, tmps.getD u undef]) w := by
  simp [results, h]

set_option maxRecDepth 20000 in
set_option maxHeartbeats 2000000 in
theorem mul64_one (c : Nat) (hc : c < 4294967296) (w : World) : Calls Tryz.prog 176 #[.int .u64 1, .int .u64 (c : Int)] w fun r w' => r = .returned (.tuple #[.int .u64 0, .int .u64 (c : Int)]) ∧ w = w' := by
  have h1 : bits .and .u64 (c : Int) 4294967295 = (c : Int) := by
    have h := bits_mask .u64 64 (by decide) wr64 32 (by omega) (c : Int) (by omega) (by omega)
    rw [show ((2 : Int) ^ 32 - 1) = 4294967295 from rfl] at h
    rw [h]; omega
  have h0 : bits .and .u64 1 4294967295 = 1 := by decide
  have h00 : bits .and .u64 0 4294967295 = 0 := by decide
  have h2 : (c : Int) / 4294967296 = 0 := by omega
  go_enter Tryz.func176, Tryz.ntmps176
  go_wp2
  (try simp only [Exit.inBlock, Exit.then])
  refine bodyPost_ret (results_2 rfl _) rfl ?_
  exact ⟨rfl, rfl⟩
set_option maxRecDepth 20000 in
set_option maxHeartbeats 2000000 in
theorem mul_one (c : Nat) (hc : c < 4294967296) (w : World) : Calls Tryz.prog 126 #[.int .u64 1, .int .u64 (c : Int)] w fun r w' => r = .returned (.tuple #[.int .u64 0, .int .u64 (c : Int)]) ∧ w = w' := by
  have HM := hid (mul64_one c hc)
  go_enter Tryz.func126, Tryz.ntmps126
  go_wp2_with fail
  refine (HM.out _).mono ?_
  rintro r w_ ⟨rfl, rfl⟩
  go_wp2
  (try simp only [Exit.inBlock, Exit.then])
  refine bodyPost_ret (results_2 rfl _) rfl ?_
  exact ⟨rfl, rfl⟩

/-- So many of a number, noughts behind. -/
def fillL (c k : Nat) (v : Int) : List Value := List.replicate k (.int .i64 v) ++ List.replicate (c - k) (.int .i64 0)
theorem fillL_len {c k : Nat} (v : Int) (h : k ≤ c) : (fillL c k v).length = c := by unfold fillL; rw [List.length_append, List.length_replicate, List.length_replicate]; omega
theorem fillL_one (c k : Nat) (v : Int) : ∀ u ∈ fillL c k v, u.oneCell' = true := by
  intro u hu
  unfold fillL at hu
  rcases List.mem_append.1 hu with h | h <;> rw [(List.mem_replicate.1 h).2] <;> rfl
theorem fillL_more {c k m : Nat} (v : Int) : (fillL c k v).take k ++ List.replicate m (.int .i64 v) ++ (fillL c k v).drop (k + m) = fillL c (k + m) v := by
  unfold fillL
  rw [List.take_left' (by rw [List.length_replicate]), ← List.drop_drop, List.drop_left' (by rw [List.length_replicate]), List.drop_replicate, List.replicate_append_replicate, show c - k - m = c - (k + m) by omega]
theorem made_ints (n : Nat) : madeCells #[Value.int .i64 0] n = (List.replicate n (Value.int .i64 0)).toArray := by
  apply Array.ext
  · simp [madeCells]
  · intro i h1 h2
    simp [madeCells, Nat.mod_one]
theorem info_i64 : (Tryz.prog.info? 3).map (fun i => (i.zero, i.size, i.bytes)) = some (some (.int .i64 0), 1, 8) := by kernel_rfl

end Go.Proofs.YtlhdofkgcbmnnaaGreat

namespace Go.Proofs.YtlhdofkgcbmnnaaGreat
open Go.RowKit Go.Proofs.Heap Go.Proofs.Sch

abbrev iZ (v : Int) : Value := .int .i64 v
theorem owns_setv {w : World} {base : Nat} {e : TypeId} {g c n : Nat} {xs : List Value} (h : w.ownsRow base e 1 (.slice (some ⟨g, 0, none⟩) n c) n xs) (k : Nat) (x : Value) :
    (w.setCell ⟨g, k, none⟩ x).ownsRow base e 1 (.slice (some ⟨g, 0, none⟩) n c) n (xs.set k x) := by
  rcases owns_block h with ⟨e1, _⟩ | ⟨g', c', cur, e1, hb, hg, hn, hm, hs, ht⟩
  · cases e1
  · injection e1 with e1 _ e2
    injection e1 with e1
    injection e1 with e1
    subst e1; subst e2
    refine ⟨by rw [List.length_set]; exact h.1, .inr ⟨_, _, _, rfl, hb, hsc_same hg k x, hn, hm, by simpa using hs, ?_⟩⟩
    rw [← ht]
    simp [List.take_set]
end Go.Proofs.YtlhdofkgcbmnnaaGreat

namespace Go.Proofs.YtlhdofkgcbmnnaaGreat
open Go.RowKit Go.Proofs.Heap Go.Proofs.Sch

theorem ways_one (n d j : Nat) (st : List Int × List Nat) : waysF n d [j] st = reachF n st j d := by
  unfold waysF
  cases reachF n st j d with
  | none => rfl
  | some s => rfl
theorem ways_two (n d j k : Nat) (st : List Int × List Nat) : waysF n d [j, k] st = match reachF n st j d with | none => none | some s => reachF n s k d := by
  rw [waysF]
  cases reachF n st j d with
  | none => rfl
  | some s => exact ways_one n d k s
theorem reach_len {n : Nat} {D E : List Int} {T U : List Nat} {j d : Nat} (h : reachF n (D, T) j d = some (E, U)) : U.length ≤ T.length + 1 := by
  unfold reachF at h
  simp only at h
  split at h
  · cases h
  · split at h
    · injection h with h
      injection h with _ h
      subst h
      split
      · rw [List.length_append, List.length_singleton]; exact Nat.le_refl _
      · omega
    · split at h
      · injection h with h
        injection h with _ h
        subst h; omega
      · cases h
theorem keep_cell {w w' : World} {b o : Nat} {v : Value} (hk : Keep (fun _ => False) w w') (h : w.cell? ⟨b, o, none⟩ = some v) : w'.cell? ⟨b, o, none⟩ = some v :=
  ((Low.keep0 hk).cell (World.block_lt_of_cell? w _ h)).trans h
theorem cells5 {w : World} {b : Nat} {t : TypeId} {v0 v1 v2 v3 v4 : Value} (x0 x1 x2 x3 x4 : Value) (h : w.heap[b]? = some (.cells #[v0, v1, v2, v3, v4] t (0, 0))) :
    (((((w.setCell ⟨b, 0, none⟩ x0).setCell ⟨b, 1, none⟩ x1).setCell ⟨b, 2, none⟩ x2).setCell ⟨b, 3, none⟩ x3).setCell ⟨b, 4, none⟩ x4).heap[b]? = some (.cells #[x0, x1, x2, x3, x4] t (0, 0)) := by
  rw [hsc_same (hsc_same (hsc_same (hsc_same (hsc_same h 0 x0) 1 x1) 2 x2) 3 x3) 4 x4]; rfl

end Go.Proofs.YtlhdofkgcbmnnaaGreat

namespace Go.Proofs.YtlhdofkgcbmnnaaGreat
open Go.RowKit Go.Proofs.Heap Go.Proofs.Sch

theorem least_ex {p : Nat → Prop} : ∀ f, p f → ∃ n, p n ∧ ∀ m, p m → n ≤ m := by
  intro f
  induction f using Nat.strongRecOn with
  | ind f ih =>
    intro hf
    by_cases h : ∃ m, m < f ∧ p m
    · obtain ⟨m, hm, hp⟩ := h
      exact ih m hm hp
    · exact ⟨f, hf, fun m hm => Nat.le_of_not_lt (fun hl => h ⟨m, hl, hm⟩)⟩
/-- The least number of a kind. -/
noncomputable def least (p : Nat → Prop) : Nat := Classical.epsilon (fun n => p n ∧ ∀ m, p m → n ≤ m)
theorem least_spec {p : Nat → Prop} {f : Nat} (h : p f) : p (least p) ∧ ∀ m, p m → least p ≤ m := Classical.epsilon_spec (least_ex f h)

def codeC (code : List VOp) : Nat := if 64 < code.length then 5 else if code.all (goodOp code.length) = true then 0 else 4
theorem sys_code (code : List VOp) : sysC ⟨⟨#[97]⟩, 0, [], 0, 0, code⟩ = codeC code := by
  have h1 : nameB ⟨#[97]⟩ = true := by decide +kernel
  have h2 : afterC ⟨#[97]⟩ [] = 0 := by unfold afterC; simp
  have h3 : isSig 0 = true := by decide
  have h4 : meetsB 0 0 = false := by decide
  unfold sysC codeC
  simp only
  rw [if_neg (by rw [h1]; simp), if_neg (by omega), if_neg (by rw [h2]; simp), if_neg (by rw [h3]; simp), if_neg (by rw [h4]; simp)]
theorem code_zero {code : List VOp} (h : codeC code = 0) : code.length ≤ 64 ∧ ∀ x ∈ code, goodOp code.length x = true := by
  unfold codeC at h
  by_cases h1 : 64 < code.length
  · rw [if_pos h1] at h; omega
  · rw [if_neg h1] at h
    by_cases h2 : code.all (goodOp code.length) = true
    · exact ⟨by omega, List.all_eq_true.1 h2⟩
    · rw [if_neg h2] at h; omega
theorem good_jump {n : Nat} {x : VOp} (h : goodOp n x = true) (hc : x.code = 16 ∨ x.code = 17) : 0 ≤ x.k ∧ x.k ≤ n := by
  unfold goodOp at h
  have hn : namesN x.code = 1 := by unfold namesN; rw [if_pos (by omega)]
  rw [hn, Bool.and_eq_true, if_neg (by omega), if_pos rfl] at h
  have := of_decide_eq_true h.2
  omega
theorem code_in {code : List VOp} (h : codeC code = 0) : Sch.InV code := by
  intro i x hx j hj
  have hi := (List.getElem?_eq_some_iff.1 hx).1
  have hg := (code_zero h).2 x (List.mem_of_getElem? hx)
  unfold waysV at hj
  rcases List.mem_append.1 hj with hj | hj
  · split at hj
    · cases hj
    · rw [List.mem_singleton.1 hj]; omega
  · split at hj
    · rename_i hc
      have := good_jump hg hc
      rw [List.mem_singleton.1 hj]; omega
    · cases hj

/-- The error of code, and its places' depths. -/
def depthsE (code : List VOp) : Nat := if codeC code = 0 then (match depthsV code with | some _ => 0 | none => 7) else 4
def depthsL (code : List VOp) : List Int := if codeC code = 0 then (match depthsV code with | some E => E | none => []) else []
theorem start_reach (code : List VOp) : reachF code.length (List.replicate (code.length + 1) (-1), []) 0 0 = some (startV code, if code.length = 0 then [] else [0]) := by
  unfold reachF startV
  rw [if_neg (by omega), if_pos (by rw [List.getElem?_replicate, if_pos (by omega)])]
  congr 2
  by_cases h : code.length = 0
  · rw [if_neg (by omega), if_pos h]
  · rw [if_pos (by omega), if_neg h]; rfl
theorem owns_cut {w : World} {base : Nat} {e : TypeId} {p : Option Addr} {c n m : Nat} {xs : List Value} (h : w.ownsRow base e 1 (.slice p n c) n xs) (hm : m ≤ n) (hp : p ≠ none) : w.ownsRow base e 1 (.slice p m c) m (xs.take m) := by
  rcases owns_block h with ⟨e1, _⟩ | ⟨g', c', cur, e1, hb, hg, hn, hm2, hs, ht⟩
  · injection e1 with e1; exact absurd e1 hp
  · injection e1 with e1 _ e2
    subst e1; subst e2
    have hl := h.1
    refine ⟨by rw [List.length_take]; omega, .inr ⟨g', _, cur, rfl, hb, hg, by omega, hm2, hs, ?_⟩⟩
    rw [← ht, List.take_take]
    congr 1
    omega

theorem owns_room2 {w : World} {base n c : Nat} {e : TypeId} {size : Nat} {p : Option Addr} {xs : List Value} (h : w.ownsRow base e size (.slice p n c) n xs) : n ≤ c := by
  rcases h.2 with ⟨h1, h2⟩ | ⟨g, cap, cur, hv, hb, hg, hn, _⟩
  · injection h1 with h3 h4 h5; omega
  · injection hv with h3 h4 h5; omega

end Go.Proofs.YtlhdofkgcbmnnaaGreat

namespace Go.Proofs.YtlhdofkgcbmnnaaGreat
open Go.RowKit Go.Proofs.Heap Go.Proofs.Sch

def idB (i : Int) : Bool := decide (1 ≤ i ∧ i ≤ 24)
theorem is_id (i : Int) (w : World) : Calls Tryz.prog 48 #[.int .i64 i] w fun r w' => r = .returned (.bool (idB i)) ∧ w = w' := by
  go_enter Tryz.func48, Tryz.ntmps48
  unfold idB
  by_cases h1 : (1 : Int) ≤ i
  · have e1 : decide ((1 : Int) ≤ i) = true := decide_eq_true h1
    go_wp2
    go_ret
    refine ⟨?_, rfl⟩
    rw [show decide (1 ≤ i ∧ i ≤ 24) = decide (i ≤ 24) from decide_eq_decide.2 (by omega)]
    rfl
  · have e1 : decide ((1 : Int) ≤ i) = false := decide_eq_false h1
    go_wp2
    go_ret
    exact ⟨by first | rfl | (rw [decide_eq_false (by omega)]; rfl), rfl⟩
def withN (s : Nat) (i : Int) : Nat := if idB i = true then s ||| 2 ^ i.toNat else s
def hasSig (s : Nat) (i : Int) : Bool := idB i && s.testBit i.toNat
def withinB (s t : Nat) : Bool := decide (s &&& 33554430 &&& (4294967295 - t) = 0)

set_option maxRecDepth 20000 in
set_option maxHeartbeats 2000000 in
theorem sig_within (s t : Nat) (hs : s < 4294967296) (ht : t < 4294967296) (w : World) : Calls Tryz.prog 21 #[.int .u32 (s : Int), .int .u32 (t : Int)] w fun r w' => r = .returned (.bool (withinB s t)) ∧ w = w' := by
  have h1 : bits .and .u32 (s : Int) 33554430 = ((s &&& 33554430 : Nat) : Int) := u32_and_nat s 33554430 hs (by omega)
  have hab : s &&& 33554430 < 4294967296 := Nat.lt_of_le_of_lt Nat.and_le_left hs
  have h2 := u32_andNot_nat (s &&& 33554430) t hab ht
  have G : Hid ((((s &&& 33554430 &&& (4294967295 - t) : Nat) : Int) == 0) = withinB s t) := hid (by
    unfold withinB
    generalize s &&& 33554430 &&& (4294967295 - t) = m
    by_cases h : m = 0
    · subst h; rfl
    · rw [beq_eq_false_iff_ne.2 (by omega), decide_eq_false h])
  generalize s &&& 33554430 &&& (4294967295 - t) = m at *
  generalize s &&& 33554430 = c at *
  go_enter Tryz.func21, Tryz.ntmps21
  go_wp2
  go_ret
  exact ⟨by rw [← G.out]; rfl, rfl⟩

set_option maxRecDepth 20000 in
set_option maxHeartbeats 2000000 in
theorem sig_with (s : Nat) (hs : s < 4294967296) (i : Int) (w : World) : Calls Tryz.prog 47 #[.int .u32 (s : Int), .int .i64 i] w fun r w' => r = .returned (.int .u32 (withN s i : Int)) ∧ w = w' := by
  have HR : Hid (withN s i = if idB i = true then s ||| 2 ^ i.toNat else s) := hid rfl
  generalize withN s i = R at *
  go_enter Tryz.func47, Tryz.ntmps47
  go_wp2_with fail
  refine (is_id i _).mono ?_
  rintro r w_ ⟨rfl, rfl⟩
  cases hb : idB i
  · have G : Hid (R = s) := hid (by rw [HR.out, hb]; rfl)
    go_wp2
    go_ret
    exact ⟨by rw [G.out]; rfl, rfl⟩
  have hr : 1 ≤ i ∧ i ≤ 24 := of_decide_eq_true hb
  obtain ⟨k, rfl⟩ := Int.eq_ofNat_of_zero_le (a := i) (by omega)
  have hk : k ≤ 24 := by omega
  have hwk : IntKind.u64.wrap (k : Int) = (k : Int) := wr64 _ (by omega) (by omega)
  have hp : 2 ^ k < 4294967296 := Nat.lt_of_le_of_lt (Nat.pow_le_pow_right (by omega) hk) (by decide : 2 ^ 24 < 4294967296)
  have ho : bits .or .u32 (s : Int) ((2 : Int) ^ k % 4294967296) = ((s ||| 2 ^ k : Nat) : Int) := by
    have h1 : (2 : Int) ^ k % 4294967296 = ((2 ^ k : Nat) : Int) := by
      have h2 : ((2 ^ k : Nat) : Int) = (2 : Int) ^ k := by simp
      rw [← h2]
      exact Int.emod_eq_of_lt (Int.natCast_nonneg _) (Int.ofNat_lt.2 hp)
    rw [h1]
    exact u32_or_nat s (2 ^ k) hs hp
  have G : Hid (R = s ||| 2 ^ k) := hid (by rw [HR.out, if_pos hb]; rfl)
  generalize s ||| 2 ^ k = m at *
  clear hb hr hp
  go_wp2
  go_ret
  exact ⟨by rw [G.out, ← ho]; rfl, rfl⟩

set_option maxRecDepth 20000 in
set_option maxHeartbeats 2000000 in
theorem sig_has (s : Nat) (hs : s < 4294967296) (i : Int) (w : World) : Calls Tryz.prog 20 #[.int .u32 (s : Int), .int .i64 i] w fun r w' => r = .returned (.bool (hasSig s i)) ∧ w = w' := by
  have HR : Hid (hasSig s i = (idB i && s.testBit i.toNat)) := hid rfl
  generalize hasSig s i = R at *
  go_enter Tryz.func20, Tryz.ntmps20
  go_wp2_with fail
  refine (is_id i _).mono ?_
  rintro r w_ ⟨rfl, rfl⟩
  cases hb : idB i
  · have G : Hid (R = false) := hid (by rw [HR.out, hb]; rfl)
    go_wp2
    go_ret
    exact ⟨by rw [G.out]; rfl, rfl⟩
  have hr : 1 ≤ i ∧ i ≤ 24 := of_decide_eq_true hb
  obtain ⟨k, rfl⟩ := Int.eq_ofNat_of_zero_le (a := i) (by omega)
  have hk : k ≤ 24 := by omega
  have hwk : IntKind.u64.wrap (k : Int) = (k : Int) := wr64 _ (by omega) (by omega)
  have HR2 : Hid (R = s.testBit k) := hid (by rw [HR.out, hb]; rfl)
  have hsh : bits .and .u32 ((s : Int) / 2 ^ k) 1 = ((s / 2 ^ k % 2 : Nat) : Int) := by
    have h1 : (s : Int) / 2 ^ k = ((s / 2 ^ k : Nat) : Int) := by simp
    rw [h1]
    have h2 := u32_and_nat (s / 2 ^ k) 1 (Nat.lt_of_le_of_lt (Nat.div_le_self _ _) hs) (by omega)
    rw [Nat.and_one_is_mod] at h2
    exact h2
  have hbt : s.testBit k = decide (s / 2 ^ k % 2 = 1) := Nat.testBit_eq_decide_div_mod_eq
  have G : Hid ((((s / 2 ^ k % 2 : Nat) : Int) == 1) = R) := hid (by
    rw [HR2.out, hbt]
    generalize s / 2 ^ k % 2 = m
    by_cases h : m = 1
    · subst h; rfl
    · rw [beq_eq_false_iff_ne.2 (by omega), decide_eq_false h])
  generalize s / 2 ^ k % 2 = m at *
  clear hb hr HR hbt
  go_wp2
  go_ret
  exact ⟨by rw [← G.out, ← hsh]; rfl, rfl⟩

/-- All components of a list. -/
def orN (l : List Int) : Nat := l.foldl withN 0
theorem withN_lt {s : Nat} (hs : s < 4294967296) (i : Int) : withN s i < 4294967296 := by
  unfold withN
  split
  · rename_i h
    have hr : 1 ≤ i ∧ i ≤ 24 := of_decide_eq_true h
    have hp : 2 ^ i.toNat < 4294967296 := Nat.lt_of_le_of_lt (Nat.pow_le_pow_right (by omega) (by omega : i.toNat ≤ 24)) (by decide : 2 ^ 24 < 4294967296)
    exact Nat.or_lt_two_pow (n := 32) hs hp
  · exact hs
theorem orN_lt : ∀ (l : List Int) (s : Nat), s < 4294967296 → l.foldl withN s < 4294967296
  | [], _, h => h
  | i :: r, _, h => orN_lt r _ (withN_lt h i)
set_option maxRecDepth 20000 in
set_option maxHeartbeats 4000000 in
theorem sig_of (l : List Int) (g : Option Addr) (c : Nat) (base : Nat) (w : World) (hl : l.length ≤ 65536) (hall : ∀ i ∈ l, idB i = true) (hr : w.ownsRow base 3 1 (.slice g l.length c) l.length (l.map iZ)) :
    Calls Tryz.prog 56 #[.slice g l.length c] w fun r w' => r = .returned (.tuple #[.int .u32 (orN l : Int), iV 0]) ∧ w = w' := by
  have HROW := hid hr; have HALL := hid hall
  clear hr hall
  go_enter Tryz.func56, Tryz.ntmps56
  go_wp2_with fail
  go_loopw [4, 6, 9] (fun s _ i wr => ∃ k : Nat, k ≤ l.length ∧ i = iV k ∧ s = .int .u32 (((l.take k).foldl withN 0 : Nat) : Int) ∧ w = wr) (fun _ _ i _ => l.length + 1 - (intOf i).toNat)
  case atStart => exact ⟨0, by omega, rfl, rfl, rfl⟩
  case round =>
    obtain ⟨k, hk, rfl, rfl, rfl⟩ := hrel
    by_cases hlt : k < l.length
    · obtain ⟨i, hi⟩ : ∃ i, l[k]? = some i := ⟨l[k], by simp [hlt]⟩
      obtain ⟨gg, rfl⟩ := owns_some HROW.out (by omega)
      have c0 : w.cell? ⟨gg, k, none⟩ = some (.int .i64 i) := by rw [owns_cell HROW.out hlt, List.getElem?_map, hi]; rfl
      have hin : (0 : Int) ≤ (k : Int) ∧ (k : Int) < (l.length : Int) := ⟨by omega, by omega⟩
      have HID := hid (HALL.out i (List.mem_of_getElem? hi))
      have HN : Hid ((l.take (k + 1)).foldl withN 0 = withN ((l.take k).foldl withN 0) i) := hid (by rw [take_next hi, List.foldl_append]; rfl)
      have HLT := hid (orN_lt (l.take k) 0 (by omega))
      generalize (l.take k).foldl withN 0 = s at *
      clear hi
      go_wp2_with fail
      refine (is_id i _).mono ?_
      rintro r w_ ⟨rfl, rfl⟩
      rw [HID.out]
      go_wp2_with fail
      refine (sig_with s HLT.out i _).mono ?_
      rintro r w_ ⟨rfl, rfl⟩
      rw [← HN.out]
      go_wp2
      go_roundw
      case rel => exact ⟨k + 1, by omega, by go_num, rfl, by first | rfl | trivial⟩
      case measure => simp [intOf]; omega
    · obtain rfl : k = l.length := by omega
      have g1 : decide ((l.length : Int) < (l.length : Int)) = false := decide_eq_false (by omega)
      have g2 : decide (l.length < l.length) = false := decide_eq_false (by omega)
      rw [List.take_length]
      go_wp2
      (try simp only [Exit.inBlock, Exit.then])
      refine bodyPost_ret (results_2 rfl _) rfl ?_
      exact ⟨rfl, rfl⟩
end Go.Proofs.YtlhdofkgcbmnnaaGreat

namespace Go.Proofs.YtlhdofkgcbmnnaaGreat
open Go.RowKit Go.Proofs.Heap Go.Proofs.Sch Go.Proofs.Wide

/-- A writer in block q, whose bytes are the row sv's. -/
structure WrS (w : World) (base q : Nat) (sv : Value) (l : List UInt8) : Prop where
  block : w.heap[q]? = some (.cells #[sv] 216 (0, 0))
  own : w.ownsRow base 5 1 sv l.length (l.map byteV)
  ne : sv.ownBlock ≠ some q
  base : base ≤ q
/-- The blocks that a writer may turn. -/
def WrF (q : Nat) (sv : Value) (g : Nat) : Prop := g = q ∨ sv.ownBlock = some g

theorem info_u8 : (Tryz.prog.info? 5).map (fun i => (i.zero, i.size, i.bytes)) = some (some (.int .u8 0), 1, 1) := by kernel_rfl

/-- The first bytes of a number, little end first. -/
def leL : Nat → Nat → List UInt8
  | 0, _ => []
  | k + 1, m => UInt8.ofNat m :: leL k (m / 256)
theorem leL_len : ∀ (k m : Nat), (leL k m).length = k
  | 0, _ => rfl
  | k + 1, m => by rw [leL, List.length_cons, leL_len k]
theorem leL_next : ∀ (k m : Nat), leL (k + 1) m = leL k m ++ [UInt8.ofNat (m / 256 ^ k)]
  | 0, m => by simp [leL]
  | k + 1, m => by
    rw [leL, leL_next k (m / 256), leL, List.cons_append, Nat.div_div_eq_div_mul, Nat.pow_succ, Nat.mul_comm]
/-- A number of so many bytes. -/
def WideOk (wd : Nat) : Prop := wd = 1 ∨ wd = 2 ∨ wd = 4 ∨ wd = 8

set_option maxRecDepth 20000 in
set_option maxHeartbeats 8000000 in
theorem oct_wide (wd : Nat) (hwd : WideOk wd) (w : World) : Calls Tryz.prog 179 #[.int .i64 (wd : Int)] w fun r w' => r = .returned (.bool true) ∧ w = w' := by
  rcases hwd with rfl | rfl | rfl | rfl
  all_goals
    go_enter Tryz.func179, Tryz.ntmps179
    go_wp2
    go_ret
    exact ⟨rfl, rfl⟩

/-- The writer behind some more bytes. -/
structure WrN (w w' : World) (base q : Nat) (sv sv' : Value) (l' : List UInt8) : Prop where
  st : WrS w' base q sv' l'
  keep : Keep (WrF q sv) w w'
  own : ∀ g, sv'.ownBlock = some g → sv.ownBlock = some g ∨ w.heap.size ≤ g

set_option maxRecDepth 20000 in
set_option maxHeartbeats 8000000 in
theorem oct_num1 (m : Nat) (hm : m < 256) (base q : Nat) (sv : Value) (l : List UInt8) (w : World) (hll : l.length ≤ 1000000) (hW : WrS w base q sv l) :
    Calls Tryz.prog 129 #[.pointer (some ⟨q, 0, none⟩), .int .i64 1, .int .u64 (m : Int)] w fun r w' => ∃ sv', r = .returned (.bool true) ∧ WrN w w' base q sv sv' (l ++ leL 1 m) := by
  obtain ⟨i0, hi0, hz0, hz1, hz2⟩ := info_parts' info_u8
  have HW := hid hW
  clear hW
  go_enter Tryz.func129, Tryz.ntmps129
  go_wp2_with fail
  refine (oct_wide 1 (by unfold WideOk; omega) _).mono ?_
  rintro r w1 ⟨rfl, rfl⟩
  have HM : Hid (m < 18446744073709551616) := hid (by omega)
  have g1 : ((m : Int) / 256 != 0) = false := by simp only [bne, beq_iff_eq.2 (show (m : Int) / 256 = 0 by omega)]; rfl
  go_wp2_with fail
  go_loopw [2, 27] (fun n i wr => ∃ (k m' : Nat) (sv' : Value) (l' : List UInt8), k ≤ 1 ∧ i = iV k ∧ n = .int .u64 (m' : Int) ∧ m' < 18446744073709551616 ∧ WrS wr base q sv' l' ∧ Keep (WrF q sv) w wr ∧ (∀ g, sv'.ownBlock = some g → sv.ownBlock = some g ∨ w.heap.size ≤ g) ∧ l' = l ++ leL k m ∧ m' = m / 256 ^ k) (fun _ i _ => 1 + 1 - (intOf i).toNat)
  case atStart => exact ⟨0, m, sv, l, Nat.zero_le _, rfl, rfl, HM.out, HW.out, Keep.refl _ _, fun g hg => .inl hg, by simp [leL], by simp⟩
  case round =>
    obtain ⟨k, m', sv', l', hk, rfl, rfl, hm', hws, hkr, how, hln0, hmk⟩ := hrel
    have hln : l'.length = l.length + k := by rw [hln0, List.length_append, leL_len]
    have HMK := hid hmk; have HL0 := hid hln0
    obtain ⟨vp, vc, rfl⟩ := owns_val hws.own
    have HKR := hid hkr; have HOW := hid how; have HWS := hid hws; have HLN := hid hln; have HM' := hid hm'
    clear hkr how hws hln hm' hln0 hmk
    by_cases hlt : k < 1
    · have c0 : wr.cell? ⟨q, 0, none⟩ = some (.slice vp l'.length vc) := cell_of HWS.out.block (by rfl)
      have f0 : wr.frozen? ⟨q, 0, none⟩ = false := free_of HWS.out.block 0
      have HQ := hid (lt_of_heap HWS.out.block)
      go_wp2_with (at_builtin; go_loud (refine wpList_append_rd rfl (.tmp 33) (.tmp 36) _ rfl base _ i0 _ 1 1 Tryz.underlying116 hi0 hz0 hz1 hz2 rfl (by decide) _ l'.length _ (by rfl) (HWS.out.own.alloc _) _ 1 _ (by rfl) (rd_block (heap_alloc_new wr _) (by simp) (by simp [Value.oneCell'])) (by unfold maxLen; have := HLN.out; omega) (by have := HLN.out; omega) (by have := HWS.out.base; have := HQ.out; simp; omega) ?_); go_loud (intro v' w5 hown5 hgrow5 hat5 hn5; obtain ⟨vq, vd, rfl⟩ := owns_val hown5; have HO5 := hid hown5; have HG5 := hid hgrow5; have HA5 := hid hat5; have HQ5 := hid ((HG5.out.block q (by have := HQ.out; simp; omega) (fun e => HWS.out.ne e.symm)).trans (((Keep.refl (fun _ => False) wr).alloc _).get HWS.out.block id)); have c5 : w5.cell? ⟨q, 0, none⟩ = some (.slice vp l'.length vc) := cell_of HQ5.out (by rfl); have f5 : w5.frozen? ⟨q, 0, none⟩ = false := free_of HQ5.out 0; clear hown5 hgrow5 hat5 hn5))
      have HNE : Hid ((Value.slice vq (l'.length + 1) vd).ownBlock ≠ some q) := hid (fun e => by
        rcases HA5.out with h | h
        · exact HWS.out.ne (h ▸ e)
        · have := HQ.out; have h2 := h.symm.trans e; simp at h2; omega)
      have HR : Hid (WrS (w5.setCell ⟨q, 0, none⟩ (.slice vq (l'.length + 1) vd)) base q (.slice vq (l'.length + 1) vd) (l' ++ [UInt8.ofNat m']) ∧ Keep (WrF q sv) w (w5.setCell ⟨q, 0, none⟩ (.slice vq (l'.length + 1) vd)) ∧ (∀ g, (Value.slice vq (l'.length + 1) vd).ownBlock = some g → sv.ownBlock = some g ∨ w.heap.size ≤ g)) := hid (by
        refine ⟨⟨?_, ?_, HNE.out, HWS.out.base⟩, ?_, fun g hg => ?_⟩
        · simpa using hsc_same HQ5.out 0 (.slice vq (l'.length + 1) vd)
        · rw [List.length_append, List.map_append]
          refine owns_keep (by simpa [byteV] using HO5.out) (fun g hg => hsc_ne _ (fun e => HNE.out (e ▸ hg)))
        · refine Keep.setCell (Keep.grown (HKR.out.alloc _) HG5.out (fun k hk => ?_)) (p := ⟨q, 0, none⟩) (.inl rfl) _
          rcases HOW.out k hk with h | h
          · exact .inr (.inr h)
          · exact .inl h
        · rcases HA5.out with h | h
          · exact HOW.out g (h ▸ hg)
          · refine .inr ?_
            have h2 := h.symm.trans hg
            have := HKR.out.size
            simp at h2
            omega)
      go_wp2
      go_roundw
      case rel => exact ⟨k + 1, m' / 256, _, _, by omega, by go_num, by simp, by have := HM'.out; omega, HR.out.1, HR.out.2.1, HR.out.2.2, by rw [HL0.out, leL_next, HMK.out, List.append_assoc], by rw [HMK.out, Nat.div_div_eq_div_mul, Nat.pow_succ]⟩
      case measure => simp [intOf]; omega
    · obtain rfl : k = 1 := by omega
      go_wp2
      go_ret
      exact ⟨_, rfl, by have h := HWS.out; have h2 := HOW.out; rw [HL0.out] at h h2; exact ⟨h, HKR.out, h2⟩⟩

set_option maxRecDepth 20000 in
set_option maxHeartbeats 8000000 in
theorem oct_num2 (m : Nat) (hm : m < 65536) (base q : Nat) (sv : Value) (l : List UInt8) (w : World) (hll : l.length ≤ 1000000) (hW : WrS w base q sv l) :
    Calls Tryz.prog 129 #[.pointer (some ⟨q, 0, none⟩), .int .i64 2, .int .u64 (m : Int)] w fun r w' => ∃ sv', r = .returned (.bool true) ∧ WrN w w' base q sv sv' (l ++ leL 2 m) := by
  obtain ⟨i0, hi0, hz0, hz1, hz2⟩ := info_parts' info_u8
  have HW := hid hW
  clear hW
  go_enter Tryz.func129, Tryz.ntmps129
  go_wp2_with fail
  refine (oct_wide 2 (by unfold WideOk; omega) _).mono ?_
  rintro r w1 ⟨rfl, rfl⟩
  have HM : Hid (m < 18446744073709551616) := hid (by omega)
  have g1 : ((m : Int) / 65536 != 0) = false := by simp only [bne, beq_iff_eq.2 (show (m : Int) / 65536 = 0 by omega)]; rfl
  go_wp2_with fail
  go_loopw [2, 27] (fun n i wr => ∃ (k m' : Nat) (sv' : Value) (l' : List UInt8), k ≤ 2 ∧ i = iV k ∧ n = .int .u64 (m' : Int) ∧ m' < 18446744073709551616 ∧ WrS wr base q sv' l' ∧ Keep (WrF q sv) w wr ∧ (∀ g, sv'.ownBlock = some g → sv.ownBlock = some g ∨ w.heap.size ≤ g) ∧ l' = l ++ leL k m ∧ m' = m / 256 ^ k) (fun _ i _ => 2 + 1 - (intOf i).toNat)
  case atStart => exact ⟨0, m, sv, l, Nat.zero_le _, rfl, rfl, HM.out, HW.out, Keep.refl _ _, fun g hg => .inl hg, by simp [leL], by simp⟩
  case round =>
    obtain ⟨k, m', sv', l', hk, rfl, rfl, hm', hws, hkr, how, hln0, hmk⟩ := hrel
    have hln : l'.length = l.length + k := by rw [hln0, List.length_append, leL_len]
    have HMK := hid hmk; have HL0 := hid hln0
    obtain ⟨vp, vc, rfl⟩ := owns_val hws.own
    have HKR := hid hkr; have HOW := hid how; have HWS := hid hws; have HLN := hid hln; have HM' := hid hm'
    clear hkr how hws hln hm' hln0 hmk
    by_cases hlt : k < 2
    · have c0 : wr.cell? ⟨q, 0, none⟩ = some (.slice vp l'.length vc) := cell_of HWS.out.block (by rfl)
      have f0 : wr.frozen? ⟨q, 0, none⟩ = false := free_of HWS.out.block 0
      have HQ := hid (lt_of_heap HWS.out.block)
      go_wp2_with (at_builtin; go_loud (refine wpList_append_rd rfl (.tmp 33) (.tmp 36) _ rfl base _ i0 _ 1 1 Tryz.underlying116 hi0 hz0 hz1 hz2 rfl (by decide) _ l'.length _ (by rfl) (HWS.out.own.alloc _) _ 1 _ (by rfl) (rd_block (heap_alloc_new wr _) (by simp) (by simp [Value.oneCell'])) (by unfold maxLen; have := HLN.out; omega) (by have := HLN.out; omega) (by have := HWS.out.base; have := HQ.out; simp; omega) ?_); go_loud (intro v' w5 hown5 hgrow5 hat5 hn5; obtain ⟨vq, vd, rfl⟩ := owns_val hown5; have HO5 := hid hown5; have HG5 := hid hgrow5; have HA5 := hid hat5; have HQ5 := hid ((HG5.out.block q (by have := HQ.out; simp; omega) (fun e => HWS.out.ne e.symm)).trans (((Keep.refl (fun _ => False) wr).alloc _).get HWS.out.block id)); have c5 : w5.cell? ⟨q, 0, none⟩ = some (.slice vp l'.length vc) := cell_of HQ5.out (by rfl); have f5 : w5.frozen? ⟨q, 0, none⟩ = false := free_of HQ5.out 0; clear hown5 hgrow5 hat5 hn5))
      have HNE : Hid ((Value.slice vq (l'.length + 1) vd).ownBlock ≠ some q) := hid (fun e => by
        rcases HA5.out with h | h
        · exact HWS.out.ne (h ▸ e)
        · have := HQ.out; have h2 := h.symm.trans e; simp at h2; omega)
      have HR : Hid (WrS (w5.setCell ⟨q, 0, none⟩ (.slice vq (l'.length + 1) vd)) base q (.slice vq (l'.length + 1) vd) (l' ++ [UInt8.ofNat m']) ∧ Keep (WrF q sv) w (w5.setCell ⟨q, 0, none⟩ (.slice vq (l'.length + 1) vd)) ∧ (∀ g, (Value.slice vq (l'.length + 1) vd).ownBlock = some g → sv.ownBlock = some g ∨ w.heap.size ≤ g)) := hid (by
        refine ⟨⟨?_, ?_, HNE.out, HWS.out.base⟩, ?_, fun g hg => ?_⟩
        · simpa using hsc_same HQ5.out 0 (.slice vq (l'.length + 1) vd)
        · rw [List.length_append, List.map_append]
          refine owns_keep (by simpa [byteV] using HO5.out) (fun g hg => hsc_ne _ (fun e => HNE.out (e ▸ hg)))
        · refine Keep.setCell (Keep.grown (HKR.out.alloc _) HG5.out (fun k hk => ?_)) (p := ⟨q, 0, none⟩) (.inl rfl) _
          rcases HOW.out k hk with h | h
          · exact .inr (.inr h)
          · exact .inl h
        · rcases HA5.out with h | h
          · exact HOW.out g (h ▸ hg)
          · refine .inr ?_
            have h2 := h.symm.trans hg
            have := HKR.out.size
            simp at h2
            omega)
      go_wp2
      go_roundw
      case rel => exact ⟨k + 1, m' / 256, _, _, by omega, by go_num, by simp, by have := HM'.out; omega, HR.out.1, HR.out.2.1, HR.out.2.2, by rw [HL0.out, leL_next, HMK.out, List.append_assoc], by rw [HMK.out, Nat.div_div_eq_div_mul, Nat.pow_succ]⟩
      case measure => simp [intOf]; omega
    · obtain rfl : k = 2 := by omega
      go_wp2
      go_ret
      exact ⟨_, rfl, by have h := HWS.out; have h2 := HOW.out; rw [HL0.out] at h h2; exact ⟨h, HKR.out, h2⟩⟩

set_option maxRecDepth 20000 in
set_option maxHeartbeats 8000000 in
theorem oct_num4 (m : Nat) (hm : m < 4294967296) (base q : Nat) (sv : Value) (l : List UInt8) (w : World) (hll : l.length ≤ 1000000) (hW : WrS w base q sv l) :
    Calls Tryz.prog 129 #[.pointer (some ⟨q, 0, none⟩), .int .i64 4, .int .u64 (m : Int)] w fun r w' => ∃ sv', r = .returned (.bool true) ∧ WrN w w' base q sv sv' (l ++ leL 4 m) := by
  obtain ⟨i0, hi0, hz0, hz1, hz2⟩ := info_parts' info_u8
  have HW := hid hW
  clear hW
  go_enter Tryz.func129, Tryz.ntmps129
  go_wp2_with fail
  refine (oct_wide 4 (by unfold WideOk; omega) _).mono ?_
  rintro r w1 ⟨rfl, rfl⟩
  have HM : Hid (m < 18446744073709551616) := hid (by omega)
  have g1 : ((m : Int) / 4294967296 != 0) = false := by simp only [bne, beq_iff_eq.2 (show (m : Int) / 4294967296 = 0 by omega)]; rfl
  go_wp2_with fail
  go_loopw [2, 27] (fun n i wr => ∃ (k m' : Nat) (sv' : Value) (l' : List UInt8), k ≤ 4 ∧ i = iV k ∧ n = .int .u64 (m' : Int) ∧ m' < 18446744073709551616 ∧ WrS wr base q sv' l' ∧ Keep (WrF q sv) w wr ∧ (∀ g, sv'.ownBlock = some g → sv.ownBlock = some g ∨ w.heap.size ≤ g) ∧ l' = l ++ leL k m ∧ m' = m / 256 ^ k) (fun _ i _ => 4 + 1 - (intOf i).toNat)
  case atStart => exact ⟨0, m, sv, l, Nat.zero_le _, rfl, rfl, HM.out, HW.out, Keep.refl _ _, fun g hg => .inl hg, by simp [leL], by simp⟩
  case round =>
    obtain ⟨k, m', sv', l', hk, rfl, rfl, hm', hws, hkr, how, hln0, hmk⟩ := hrel
    have hln : l'.length = l.length + k := by rw [hln0, List.length_append, leL_len]
    have HMK := hid hmk; have HL0 := hid hln0
    obtain ⟨vp, vc, rfl⟩ := owns_val hws.own
    have HKR := hid hkr; have HOW := hid how; have HWS := hid hws; have HLN := hid hln; have HM' := hid hm'
    clear hkr how hws hln hm' hln0 hmk
    by_cases hlt : k < 4
    · have c0 : wr.cell? ⟨q, 0, none⟩ = some (.slice vp l'.length vc) := cell_of HWS.out.block (by rfl)
      have f0 : wr.frozen? ⟨q, 0, none⟩ = false := free_of HWS.out.block 0
      have HQ := hid (lt_of_heap HWS.out.block)
      go_wp2_with (at_builtin; go_loud (refine wpList_append_rd rfl (.tmp 33) (.tmp 36) _ rfl base _ i0 _ 1 1 Tryz.underlying116 hi0 hz0 hz1 hz2 rfl (by decide) _ l'.length _ (by rfl) (HWS.out.own.alloc _) _ 1 _ (by rfl) (rd_block (heap_alloc_new wr _) (by simp) (by simp [Value.oneCell'])) (by unfold maxLen; have := HLN.out; omega) (by have := HLN.out; omega) (by have := HWS.out.base; have := HQ.out; simp; omega) ?_); go_loud (intro v' w5 hown5 hgrow5 hat5 hn5; obtain ⟨vq, vd, rfl⟩ := owns_val hown5; have HO5 := hid hown5; have HG5 := hid hgrow5; have HA5 := hid hat5; have HQ5 := hid ((HG5.out.block q (by have := HQ.out; simp; omega) (fun e => HWS.out.ne e.symm)).trans (((Keep.refl (fun _ => False) wr).alloc _).get HWS.out.block id)); have c5 : w5.cell? ⟨q, 0, none⟩ = some (.slice vp l'.length vc) := cell_of HQ5.out (by rfl); have f5 : w5.frozen? ⟨q, 0, none⟩ = false := free_of HQ5.out 0; clear hown5 hgrow5 hat5 hn5))
      have HNE : Hid ((Value.slice vq (l'.length + 1) vd).ownBlock ≠ some q) := hid (fun e => by
        rcases HA5.out with h | h
        · exact HWS.out.ne (h ▸ e)
        · have := HQ.out; have h2 := h.symm.trans e; simp at h2; omega)
      have HR : Hid (WrS (w5.setCell ⟨q, 0, none⟩ (.slice vq (l'.length + 1) vd)) base q (.slice vq (l'.length + 1) vd) (l' ++ [UInt8.ofNat m']) ∧ Keep (WrF q sv) w (w5.setCell ⟨q, 0, none⟩ (.slice vq (l'.length + 1) vd)) ∧ (∀ g, (Value.slice vq (l'.length + 1) vd).ownBlock = some g → sv.ownBlock = some g ∨ w.heap.size ≤ g)) := hid (by
        refine ⟨⟨?_, ?_, HNE.out, HWS.out.base⟩, ?_, fun g hg => ?_⟩
        · simpa using hsc_same HQ5.out 0 (.slice vq (l'.length + 1) vd)
        · rw [List.length_append, List.map_append]
          refine owns_keep (by simpa [byteV] using HO5.out) (fun g hg => hsc_ne _ (fun e => HNE.out (e ▸ hg)))
        · refine Keep.setCell (Keep.grown (HKR.out.alloc _) HG5.out (fun k hk => ?_)) (p := ⟨q, 0, none⟩) (.inl rfl) _
          rcases HOW.out k hk with h | h
          · exact .inr (.inr h)
          · exact .inl h
        · rcases HA5.out with h | h
          · exact HOW.out g (h ▸ hg)
          · refine .inr ?_
            have h2 := h.symm.trans hg
            have := HKR.out.size
            simp at h2
            omega)
      go_wp2
      go_roundw
      case rel => exact ⟨k + 1, m' / 256, _, _, by omega, by go_num, by simp, by have := HM'.out; omega, HR.out.1, HR.out.2.1, HR.out.2.2, by rw [HL0.out, leL_next, HMK.out, List.append_assoc], by rw [HMK.out, Nat.div_div_eq_div_mul, Nat.pow_succ]⟩
      case measure => simp [intOf]; omega
    · obtain rfl : k = 4 := by omega
      go_wp2
      go_ret
      exact ⟨_, rfl, by have h := HWS.out; have h2 := HOW.out; rw [HL0.out] at h h2; exact ⟨h, HKR.out, h2⟩⟩

set_option maxRecDepth 20000 in
set_option maxHeartbeats 8000000 in
theorem oct_num8 (m : Nat) (hm : m < 18446744073709551616) (base q : Nat) (sv : Value) (l : List UInt8) (w : World) (hll : l.length ≤ 1000000) (hW : WrS w base q sv l) :
    Calls Tryz.prog 129 #[.pointer (some ⟨q, 0, none⟩), .int .i64 8, .int .u64 (m : Int)] w fun r w' => ∃ sv', r = .returned (.bool true) ∧ WrN w w' base q sv sv' (l ++ leL 8 m) := by
  obtain ⟨i0, hi0, hz0, hz1, hz2⟩ := info_parts' info_u8
  have HW := hid hW
  clear hW
  go_enter Tryz.func129, Tryz.ntmps129
  go_wp2_with fail
  refine (oct_wide 8 (by unfold WideOk; omega) _).mono ?_
  rintro r w1 ⟨rfl, rfl⟩
  have HM : Hid (m < 18446744073709551616) := hid (by omega)
  go_wp2_with fail
  go_loopw [2, 27] (fun n i wr => ∃ (k m' : Nat) (sv' : Value) (l' : List UInt8), k ≤ 8 ∧ i = iV k ∧ n = .int .u64 (m' : Int) ∧ m' < 18446744073709551616 ∧ WrS wr base q sv' l' ∧ Keep (WrF q sv) w wr ∧ (∀ g, sv'.ownBlock = some g → sv.ownBlock = some g ∨ w.heap.size ≤ g) ∧ l' = l ++ leL k m ∧ m' = m / 256 ^ k) (fun _ i _ => 8 + 1 - (intOf i).toNat)
  case atStart => exact ⟨0, m, sv, l, Nat.zero_le _, rfl, rfl, HM.out, HW.out, Keep.refl _ _, fun g hg => .inl hg, by simp [leL], by simp⟩
  case round =>
    obtain ⟨k, m', sv', l', hk, rfl, rfl, hm', hws, hkr, how, hln0, hmk⟩ := hrel
    have hln : l'.length = l.length + k := by rw [hln0, List.length_append, leL_len]
    have HMK := hid hmk; have HL0 := hid hln0
    obtain ⟨vp, vc, rfl⟩ := owns_val hws.own
    have HKR := hid hkr; have HOW := hid how; have HWS := hid hws; have HLN := hid hln; have HM' := hid hm'
    clear hkr how hws hln hm' hln0 hmk
    by_cases hlt : k < 8
    · have c0 : wr.cell? ⟨q, 0, none⟩ = some (.slice vp l'.length vc) := cell_of HWS.out.block (by rfl)
      have f0 : wr.frozen? ⟨q, 0, none⟩ = false := free_of HWS.out.block 0
      have HQ := hid (lt_of_heap HWS.out.block)
      go_wp2_with (at_builtin; go_loud (refine wpList_append_rd rfl (.tmp 33) (.tmp 36) _ rfl base _ i0 _ 1 1 Tryz.underlying116 hi0 hz0 hz1 hz2 rfl (by decide) _ l'.length _ (by rfl) (HWS.out.own.alloc _) _ 1 _ (by rfl) (rd_block (heap_alloc_new wr _) (by simp) (by simp [Value.oneCell'])) (by unfold maxLen; have := HLN.out; omega) (by have := HLN.out; omega) (by have := HWS.out.base; have := HQ.out; simp; omega) ?_); go_loud (intro v' w5 hown5 hgrow5 hat5 hn5; obtain ⟨vq, vd, rfl⟩ := owns_val hown5; have HO5 := hid hown5; have HG5 := hid hgrow5; have HA5 := hid hat5; have HQ5 := hid ((HG5.out.block q (by have := HQ.out; simp; omega) (fun e => HWS.out.ne e.symm)).trans (((Keep.refl (fun _ => False) wr).alloc _).get HWS.out.block id)); have c5 : w5.cell? ⟨q, 0, none⟩ = some (.slice vp l'.length vc) := cell_of HQ5.out (by rfl); have f5 : w5.frozen? ⟨q, 0, none⟩ = false := free_of HQ5.out 0; clear hown5 hgrow5 hat5 hn5))
      have HNE : Hid ((Value.slice vq (l'.length + 1) vd).ownBlock ≠ some q) := hid (fun e => by
        rcases HA5.out with h | h
        · exact HWS.out.ne (h ▸ e)
        · have := HQ.out; have h2 := h.symm.trans e; simp at h2; omega)
      have HR : Hid (WrS (w5.setCell ⟨q, 0, none⟩ (.slice vq (l'.length + 1) vd)) base q (.slice vq (l'.length + 1) vd) (l' ++ [UInt8.ofNat m']) ∧ Keep (WrF q sv) w (w5.setCell ⟨q, 0, none⟩ (.slice vq (l'.length + 1) vd)) ∧ (∀ g, (Value.slice vq (l'.length + 1) vd).ownBlock = some g → sv.ownBlock = some g ∨ w.heap.size ≤ g)) := hid (by
        refine ⟨⟨?_, ?_, HNE.out, HWS.out.base⟩, ?_, fun g hg => ?_⟩
        · simpa using hsc_same HQ5.out 0 (.slice vq (l'.length + 1) vd)
        · rw [List.length_append, List.map_append]
          refine owns_keep (by simpa [byteV] using HO5.out) (fun g hg => hsc_ne _ (fun e => HNE.out (e ▸ hg)))
        · refine Keep.setCell (Keep.grown (HKR.out.alloc _) HG5.out (fun k hk => ?_)) (p := ⟨q, 0, none⟩) (.inl rfl) _
          rcases HOW.out k hk with h | h
          · exact .inr (.inr h)
          · exact .inl h
        · rcases HA5.out with h | h
          · exact HOW.out g (h ▸ hg)
          · refine .inr ?_
            have h2 := h.symm.trans hg
            have := HKR.out.size
            simp at h2
            omega)
      go_wp2
      go_roundw
      case rel => exact ⟨k + 1, m' / 256, _, _, by omega, by go_num, by simp, by have := HM'.out; omega, HR.out.1, HR.out.2.1, HR.out.2.2, by rw [HL0.out, leL_next, HMK.out, List.append_assoc], by rw [HMK.out, Nat.div_div_eq_div_mul, Nat.pow_succ]⟩
      case measure => simp [intOf]; omega
    · obtain rfl : k = 8 := by omega
      go_wp2
      go_ret
      exact ⟨_, rfl, by have h := HWS.out; have h2 := HOW.out; rw [HL0.out] at h h2; exact ⟨h, HKR.out, h2⟩⟩

theorem run_wr_string {w : World} {base q : Nat} {sv : Value} {l : List UInt8} (h : WrS w base q sv l) :
    (convert 116 9 sv).run Tryz.prog w = .ok (.string ⟨l.toArray⟩) w := by
  rcases owns_block h.own with ⟨rfl, h0, h1⟩ | ⟨g, cap, cur, rfl, _, hg, _⟩
  · obtain rfl : l = [] := by simpa using h1
    kernel_rfl
  · refine run_bytes_string w _ _ 5 (by kernel_rfl) (by kernel_rfl) (by kernel_rfl) g 0 _ cap l rfl fun i x hx => ?_
    rw [Nat.zero_add, owns_cell h.own (List.getElem?_eq_some_iff.1 hx).1, List.getElem?_map, hx]
    rfl

set_option maxRecDepth 20000 in
set_option maxHeartbeats 8000000 in
theorem wr_string (base q : Nat) (sv : Value) (l : List UInt8) (w : World) (hW : WrS w base q sv l) :
    Calls Tryz.prog 130 #[.pointer (some ⟨q, 0, none⟩)] w fun r w' => r = .returned (.string ⟨l.toArray⟩) ∧ w = w' := by
  have hr := run_wr_string hW
  have c0 : w.cell? ⟨q, 0, none⟩ = some sv := cell_of hW.block (by rfl)
  obtain ⟨vp, vc, rfl⟩ := owns_val hW.own
  clear hW
  go_enter Tryz.func130, Tryz.ntmps130
  go_wp2
  go_ret
  exact ⟨rfl, rfl⟩
end Go.Proofs.YtlhdofkgcbmnnaaGreat
