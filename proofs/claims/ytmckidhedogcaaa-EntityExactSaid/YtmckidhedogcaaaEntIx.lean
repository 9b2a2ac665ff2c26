/- What is proved: an Index in memory: what its cells are, and how it stands when a cell or its queue turns. -/
import Derived.Test.YtmckidhedogcaaaEntUp
import Derived.Test.YtmckidhedogcaaaEntIxLaw
namespace Go.Proofs.Ytmckidhedogcaaa
open Go.RowKit Go.Proofs.Heap Go.Proofs.HeapLaw

abbrev natsV (G : Nat → Nat) (n : Nat) : List Value := (List.range n).map fun i => iV (G i)
abbrev bV (x : Bool) : Value := .bool x
abbrev boolsV (L : Nat → Bool) (n : Nat) : List Value := (List.range n).map fun i => bV (L i)

theorem natsV_upd (G : Nat → Nat) (m k x : Nat) : (natsV G m).set k (iV x) = natsV (upd G k x) m := map_upd G iV m k x
theorem boolsV_upd (L : Nat → Bool) (m k : Nat) (x : Bool) : (boolsV L m).set k (bV x) = boolsV (upd L k x) m := map_upd L bV m k x

abbrev headC (g c p cp q cq n most m : Nat) : Array Value := #[iV most, .slice (some ⟨p, 0, none⟩) (n + 1) cp, .slice (some ⟨q, 0, none⟩) (n + 1) cq, .slice (some ⟨g, 0, none⟩) m c]

/-- The Index in block b. -/
structure IM (w : World) (b g c p cp q cq n most : Nat) (G : Nat → Nat) (L : Nat → Bool) (F : List Nat) : Prop where
  head : w.heap[b]? = some (.cells (headC g c p cp q cq n most F.length) 68 (0, 0))
  gown : w.ownsRow 0 3 1 (.slice (some ⟨p, 0, none⟩) (n + 1) cp) (n + 1) (natsV G (n + 1))
  lown : w.ownsRow 0 4 1 (.slice (some ⟨q, 0, none⟩) (n + 1) cq) (n + 1) (boolsV L (n + 1))
  fown : w.ownsRow 0 3 1 (.slice (some ⟨g, 0, none⟩) F.length c) F.length (F.map iV)
  bp : b ≠ p
  bq : b ≠ q
  bg : b ≠ g
  pq : p ≠ q
  pg : p ≠ g
  qg : q ≠ g

structure IX (w : World) (b g c p cp q cq n most : Nat) (G : Nat → Nat) (L : Nat → Bool) (F : List Nat) : Prop extends IM w b g c p cp q cq n most G L F where
  law : Law n most G L F

theorem owns_lt {w : World} {e : TypeId} {g m c : Nat} {xs : List Value} (ho : w.ownsRow 0 e 1 (.slice (some ⟨g, 0, none⟩) m c) m xs) : g < w.heap.size := by
  rcases owns_block ho with ⟨e1, _⟩ | ⟨g', c', cur, e1, hb, hg, _⟩
  · cases e1
  · injection e1 with e1; injection e1 with e1; injection e1 with e1; subst e1; exact lt_of_heap hg

theorem owns_keepS {w w' : World} {S : Nat → Prop} {e : TypeId} {g m c : Nat} {xs : List Value} (ho : w.ownsRow 0 e 1 (.slice (some ⟨g, 0, none⟩) m c) m xs) (hk : Keep S w w') (hs : ¬ S g) : w'.ownsRow 0 e 1 (.slice (some ⟨g, 0, none⟩) m c) m xs :=
  owns_keep ho fun k e => hk.block k (by simp [Value.ownBlock] at e; subst e; exact owns_lt ho) (by simp [Value.ownBlock] at e; subst e; exact hs)

section
variable {w : World} {b g c p cp q cq n most : Nat} {G : Nat → Nat} {L : Nat → Bool} {F : List Nat}

theorem IM.keep (h : IM w b g c p cp q cq n most G L F) {w' : World} {S : Nat → Prop} (hk : Keep S w w') (h1 : ¬ S b) (h2 : ¬ S g) (h3 : ¬ S p) (h4 : ¬ S q) : IM w' b g c p cp q cq n most G L F :=
  ⟨hk.get h.head h1, owns_keepS h.gown hk h3, owns_keepS h.lown hk h4, owns_keepS h.fown hk h2, h.bp, h.bq, h.bg, h.pq, h.pg, h.qg⟩
theorem IX.keep (h : IX w b g c p cp q cq n most G L F) {w' : World} {S : Nat → Prop} (hk : Keep S w w') (h1 : ¬ S b) (h2 : ¬ S g) (h3 : ¬ S p) (h4 : ¬ S q) : IX w' b g c p cp q cq n most G L F :=
  ⟨h.toIM.keep hk h1 h2 h3 h4, h.law⟩
theorem IX.keep0 (h : IX w b g c p cp q cq n most G L F) {w' : World} (hk : Keep (fun _ => False) w w') : IX w' b g c p cp q cq n most G L F := h.keep hk id id id id

theorem IM.setGen (h : IM w b g c p cp q cq n most G L F) {k : Nat} (hk : k ≤ n) (x : Nat) : IM (w.setCell ⟨p, k, none⟩ (iV x)) b g c p cp q cq n most (upd G k x) L F := by
  have hK : Keep (fun k => k = p) w (w.setCell ⟨p, k, none⟩ (iV x)) := (Keep.refl (fun k => k = p) w).setCell (p := ⟨p, k, none⟩) rfl _
  refine ⟨hK.get h.head h.bp, ?_, owns_keepS h.lown hK (Ne.symm h.pq), owns_keepS h.fown hK (Ne.symm h.pg), h.bp, h.bq, h.bg, h.pq, h.pg, h.qg⟩
  have := owns_set h.gown k (iV x) (by omega)
  rwa [natsV_upd] at this
theorem IM.setLife (h : IM w b g c p cp q cq n most G L F) {k : Nat} (hk : k ≤ n) (x : Bool) : IM (w.setCell ⟨q, k, none⟩ (bV x)) b g c p cp q cq n most G (upd L k x) F := by
  have hK : Keep (fun k => k = q) w (w.setCell ⟨q, k, none⟩ (bV x)) := (Keep.refl (fun k => k = q) w).setCell (p := ⟨q, k, none⟩) rfl _
  refine ⟨hK.get h.head h.bq, owns_keepS h.gown hK h.pq, ?_, owns_keepS h.fown hK (Ne.symm h.qg), h.bp, h.bq, h.bg, h.pq, h.pg, h.qg⟩
  have := owns_set h.lown k (bV x) (by omega)
  rwa [boolsV_upd] at this
/-- The queue has turned. -/
theorem IM.turn (h : IM w b g c p cp q cq n most G L F) {w' : World} {g' c' : Nat} {F' : List Nat} (hq : QS w' b g' c' F') (hg : g' = g ∨ w.heap.size ≤ g') (hk : Keep (fun k => k = b ∨ k = g) w w')
    (hh : ∀ cur t, w.heap[b]? = some (.cells cur t (0, 0)) → w'.heap[b]? = some (.cells (cur.setIfInBounds 3 (.slice (some ⟨g', 0, none⟩) F'.length c')) t (0, 0))) : IM w' b g' c' p cp q cq n most G L F' := by
  have hp := owns_lt h.gown
  have hq2 := owns_lt h.lown
  have h1 := h.bp; have h2 := h.bq; have h3 := h.pg; have h4 := h.qg
  refine ⟨by have := hh _ _ h.head; simpa using this, owns_keepS h.gown hk (by omega), owns_keepS h.lown hk (by omega), hq.own, h.bp, h.bq, Ne.symm hq.ne, h.pq, by omega, by omega⟩

theorem IM.drew (h : IM w b g c p cp q cq n most G L F) : IM w.drew b g c p cp q cq n most G L F := ⟨h.head, h.gown, h.lown, h.fown, h.bp, h.bq, h.bg, h.pq, h.pg, h.qg⟩
theorem IX.drew (h : IX w b g c p cp q cq n most G L F) : IX w.drew b g c p cp q cq n most G L F := ⟨h.toIM.drew, h.law⟩

theorem IM.c0 (h : IM w b g c p cp q cq n most G L F) : w.cell? ⟨b, 0, none⟩ = some (iV most) := cell_of h.head (by simp)
theorem IM.c1 (h : IM w b g c p cp q cq n most G L F) : w.cell? ⟨b, 1, none⟩ = some (.slice (some ⟨p, 0, none⟩) (n + 1) cp) := cell_of h.head (by simp)
theorem IM.c2 (h : IM w b g c p cp q cq n most G L F) : w.cell? ⟨b, 2, none⟩ = some (.slice (some ⟨q, 0, none⟩) (n + 1) cq) := cell_of h.head (by simp)
theorem IM.c3 (h : IM w b g c p cp q cq n most G L F) : w.cell? ⟨b, 3, none⟩ = some (.slice (some ⟨g, 0, none⟩) F.length c) := cell_of h.head (by simp)
theorem IM.gen (h : IM w b g c p cp q cq n most G L F) {i : Nat} (hi : i ≤ n) : w.cell? ⟨p, i, none⟩ = some (iV (G i)) := by
  rw [owns_cell h.gown (by omega)]; simp [show i < n + 1 by omega]
theorem IM.life (h : IM w b g c p cp q cq n most G L F) {i : Nat} (hi : i ≤ n) : w.cell? ⟨q, i, none⟩ = some (bV (L i)) := by
  rw [owns_cell h.lown (by omega)]; simp [show i < n + 1 by omega]
theorem IM.fr (h : IM w b g c p cp q cq n most G L F) {i : Nat} (hi : i < F.length) : w.cell? ⟨g, i, none⟩ = some (iV (at_ F i)) := by
  rw [owns_cell h.fown hi]; simp [at_, List.getD, hi]
theorem IM.qs (h : IM w b g c p cp q cq n most G L F) (hl : F.length ≤ 60000) : QS w b g c F := ⟨h.c3, h.fown, Ne.symm h.bg, by omega⟩

/-- A handle in memory. -/
abbrev eV (n : Nat) : Value := .int .u64 (n : Int)
def hN (id gen : Nat) : Nat := gen * 4294967296 + id

theorem ofN (id gen : Nat) (w : World) (h0 : 1 ≤ id) (h1 : id < 4294967296) (g0 : 1 ≤ gen) (g1 : gen < 4294967296) :
    Calls Try.prog 9 #[.int .i64 (id : Int), .int .i64 (gen : Int)] w fun r w' => r = .returned (eV (hN id gen)) ∧ w = w' := by
  have := ent_of id gen w (by omega) (by omega) (by omega) (by omega)
  have e : handle id gen = ((hN id gen : Nat) : Int) := by unfold handle hN; omega
  rwa [e] at this
theorem idN (e : Nat) (w : World) (h1 : e < 18446744073709551616) : Calls Try.prog 10 #[eV e] w fun r w' => r = .returned (iV (e % 4294967296)) ∧ w = w' := by
  have := ent_id e w (by omega) (by omega)
  rwa [show (e : Int) % 4294967296 = ((e % 4294967296 : Nat) : Int) by omega] at this
theorem genN (e : Nat) (w : World) (h1 : e < 18446744073709551616) : Calls Try.prog 11 #[eV e] w fun r w' => r = .returned (iV (e / 4294967296)) ∧ w = w' := by
  have := ent_gen e w (by omega) (by omega)
  rwa [show (e : Int) / 4294967296 = ((e / 4294967296 : Nat) : Int) by omega] at this
end

end Go.Proofs.Ytmckidhedogcaaa
