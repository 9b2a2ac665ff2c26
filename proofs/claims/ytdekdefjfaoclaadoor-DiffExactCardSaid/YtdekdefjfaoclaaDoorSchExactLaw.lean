/- What is proved: the reference's Find; what the first place of something is, found from behind; what a search answers, with the place. -/
import Derived.Test.YtdekdefjfaoclaaDoorRef07
import Derived.Test.YtdekdefjfaoclaaDoorSchAt
namespace Go.Proofs.YtdekdefjfaoclaaDoor
open Go.RowKit Go.Proofs.Heap Go.Proofs.Sch

/-- The first place from n on. -/
def idxFrom {α : Type} (q : α → Bool) (l : List α) (n : Nat) : Int := match (l.drop n).findIdx? q with | some i => (n : Int) + i | none => -1
theorem idxFrom_end {α : Type} (q : α → Bool) (l : List α) : idxFrom q l l.length = -1 := by unfold idxFrom; rw [List.drop_length]; rfl
theorem idxFrom_zero {α : Type} (q : α → Bool) (l : List α) : idxFrom q l 0 = idxI q l := by
  unfold idxFrom idxI
  rw [List.drop_zero]
  cases l.findIdx? q <;> simp
theorem idxFrom_yes {α : Type} {q : α → Bool} {l : List α} {n : Nat} {x : α} (h : l[n]? = some x) (hq : q x = true) : idxFrom q l n = (n : Int) := by
  unfold idxFrom
  rw [drop_next h, List.findIdx?_cons, if_pos hq]
  simp
theorem idxFrom_no {α : Type} {q : α → Bool} {l : List α} {n : Nat} {x : α} (h : l[n]? = some x) (hq : q x = false) : idxFrom q l n = idxFrom q l (n + 1) := by
  unfold idxFrom
  rw [drop_next h, List.findIdx?_cons, if_neg (by rw [hq]; exact Bool.false_ne_true)]
  cases (l.drop (n + 1)).findIdx? q with
  | none => rfl
  | some i => simp; omega

/-- What a search answers, with the place. -/
def FoundC (w' : World) (q : Cmp → Bool) (cs : List Cmp) (r : Ending) : Prop :=
  ∃ (i : Int) (nm : ByteArray) (fs : List Fld) (p : Option Addr) (z : Nat) (B : Bool), r = .returned (.tuple #[.agg #[.int .i64 i, .string nm, .slice p fs.length z], .bool B]) ∧ FP w' w'.heap.size p fs ∧
    ((B = true ∧ ∃ k : Nat, idxI q cs = (k : Int) ∧ cs[k]? = some ⟨i, nm, fs⟩) ∨ (B = false ∧ idxI q cs = -1 ∧ (i = 0 ∧ nm = ⟨#[]⟩ ∧ fs = [])))
theorem Found.toC {B : Nat} {w' : World} {q : Cmp → Bool} {cs : List Cmp} {r : Ending} (h : Found B w' q cs r) : FoundC w' q cs r := by
  rcases h with ⟨k, c, p, z, h1, h2, _, rfl, h4, h5⟩ | ⟨h1, rfl⟩
  · exact ⟨c.id, c.name, c.fs, p, z, true, rfl, fp_own rfl h5, .inl ⟨rfl, k, h1, h2⟩⟩
  · exact ⟨0, ⟨#[]⟩, [], none, 0, false, rfl, .inl rfl, .inr ⟨rfl, h1, rfl, rfl, rfl⟩⟩

set_option maxRecDepth 20000 in
set_option maxHeartbeats 2000000 in
theorem r_find (id v : Int) (cs : List Cmp) (p : Option Addr) (cap : Nat) (w : World) (hl : cs.length ≤ 2932031007402) (hf : CP w w.heap.size p cs) :
    Calls Tryd.prog 15 #[.agg #[.int .i64 v, .slice p cs.length cap], .int .i64 id] w fun r w' => r = .returned (.int .i64 (idxI (fun c => decide (c.id = id)) cs)) ∧ Keep (fun _ => False) w w' := by
  have hk0 := (Keep.refl (fun _ => False) w).alloc (.cells #[.int .i64 v, .slice p cs.length cap] 24)
  have HB0 := hid (heap_alloc_new w (.cells #[.int .i64 v, .slice p cs.length cap] 24))
  have HF0 := hid (CP.mono (CP.low hf (Low.keep0 hk0)) hk0.size)
  have HK0 := hid hk0
  clear hf hk0
  go_enter Tryd.func15, Tryd.ntmps15
  go_upto_region 1 with fail
  generalize w.alloc (.cells #[.int .i64 v, .slice p cs.length cap] 24) = w0 at *
  generalize w.heap.size = sb at *
  have s1 : w0.cell? ⟨sb, 1, none⟩ = some (.slice p cs.length cap) := cell_of HB0.out (by rfl)
  go_wp2_with fail
  go_loopw [5] (fun i wr => ∃ k : Nat, k ≤ cs.length ∧ i = iV k ∧ (∀ d ∈ cs.take k, decide (d.id = id) = false) ∧ w0 = wr) (fun i _ => cs.length + 1 - (intOf i).toNat)
  case atStart => exact ⟨0, Nat.zero_le _, rfl, by simp, rfl⟩
  case round =>
    obtain ⟨k, hk, rfl, hall, rfl⟩ := hrel
    have HALL := hid hall
    clear hall
    by_cases hlt : k < cs.length
    · obtain ⟨c, hcc⟩ : ∃ c, cs[k]? = some c := ⟨cs[k], by simp [hlt]⟩
      obtain ⟨b, off, fq, fk, rfl, hb, c0, c1, c2, _, _⟩ := CP.at HF0.out hcc
      have hin : (0 : Int) ≤ (k : Int) ∧ (k : Int) < (cs.length : Int) := ⟨by omega, by omega⟩
      by_cases he : c.id = id
      · have G := hid (idx_at (q := fun c : Cmp => decide (c.id = id)) hcc (decide_eq_true he) HALL.out)
        have g1 : (c.id == id) = true := beq_iff_eq.2 he
        clear he hcc
        go_wp2
        go_ret
        exact ⟨by rw [G.out]; rfl, HK0.out⟩
      · have G : Hid (∀ d ∈ cs.take (k + 1), decide (d.id = id) = false) := hid (fun d hd => by
          rw [take_next hcc] at hd
          rcases List.mem_append.1 hd with h | h
          · exact HALL.out d h
          · rw [List.mem_singleton.1 h]; exact decide_eq_false he)
        have g1 : (c.id == id) = false := beq_eq_false_iff_ne.2 he
        clear hcc
        go_wp2
        go_roundw
        case rel => exact ⟨k + 1, by omega, by go_num, G.out, by trivial⟩
        case measure => simp [intOf]; omega
    · obtain rfl : k = cs.length := by omega
      have G := hid (idx_none (q := fun c : Cmp => decide (c.id = id)) (by have := HALL.out; rwa [List.take_length] at this))
      have g1 : decide ((cs.length : Int) < (cs.length : Int)) = false := decide_eq_false (by omega)
      clear HALL
      go_wp2
      go_ret
      exact ⟨by rw [G.out]; rfl, HK0.out⟩
end Go.Proofs.YtdekdefjfaoclaaDoor
