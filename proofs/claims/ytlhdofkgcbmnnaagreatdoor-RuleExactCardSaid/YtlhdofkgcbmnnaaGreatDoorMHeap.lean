/- What is proved: small facts on worlds (which blocks a call may turn), for the walks of this claim. -/
import Derived.WalkKit
import Derived.WalkSpells
import Derived.WalkLawsBesides
import Derived.Maps.AppendAt
import Derived.Test.YtlhdofkgcbmnnaaGreatDoorRows
import Derived.Deep.Cut
import Derived.Deep.CutRange
import Derived.Deep.CutBlock
import Derived.Laws.Rows
import Derived.Laws.BitsLemmas
namespace Go.Proofs.Heap
open Go.RowKit

/-- Outside of S what was there is as it was; no block has gone; the streams are as they were. -/
structure Keep (S : Nat → Prop) (w w' : World) : Prop where
  os : w'.os = w.os
  tape : w'.tape = w.tape
  output : w'.output = w.output
  size : w.heap.size ≤ w'.heap.size
  block : ∀ k, k < w.heap.size → ¬ S k → w'.heap[k]? = w.heap[k]?

theorem Keep.refl (S : Nat → Prop) (w : World) : Keep S w w := ⟨rfl, rfl, rfl, Nat.le_refl _, fun _ _ _ => rfl⟩
theorem Keep.trans {S : Nat → Prop} {a b c : World} (h : Keep S a b) (k : Keep S b c) : Keep S a c :=
  ⟨k.os.trans h.os, k.tape.trans h.tape, k.output.trans h.output, Nat.le_trans h.size k.size, fun i hi hs => (k.block i (Nat.lt_of_lt_of_le hi h.size) hs).trans (h.block i hi hs)⟩
theorem Keep.mono {S T : Nat → Prop} {w w' : World} (h : Keep S w w') (hs : ∀ k, k < w.heap.size → S k → T k) : Keep T w w' :=
  ⟨h.os, h.tape, h.output, h.size, fun k hk ht => h.block k hk (fun s => ht (hs k hk s))⟩
/-- Two steps, of which the second may turn what is new too. -/
theorem Keep.trans' {S T : Nat → Prop} {a b c : World} (h : Keep S a b) (k : Keep T b c) (hT : ∀ i, i < a.heap.size → T i → S i) : Keep S a c :=
  ⟨k.os.trans h.os, k.tape.trans h.tape, k.output.trans h.output, Nat.le_trans h.size k.size,
    fun i hi hs => (k.block i (Nat.lt_of_lt_of_le hi h.size) (fun t => hs (hT i hi t))).trans (h.block i hi hs)⟩
theorem Keep.drew {S : Nat → Prop} {a w : World} (h : Keep S a w) : Keep S a w.drew := ⟨h.os, h.tape, h.output, h.size, h.block⟩
theorem Keep.drewN {S : Nat → Prop} {a w : World} (n : Nat) (h : Keep S a w) : Keep S a (w.drewN n) := ⟨h.os, h.tape, h.output, h.size, h.block⟩
theorem Keep.alloc {S : Nat → Prop} {a w : World} (h : Keep S a w) (o : Obj) : Keep S a (w.alloc o) :=
  ⟨h.os, h.tape, h.output, Nat.le_trans h.size (by simp), fun k hk hs => (Below.heap_alloc w o k (Nat.lt_of_lt_of_le hk h.size)).trans (h.block k hk hs)⟩
theorem Keep.setRow {S : Nat → Prop} {a w : World} (h : Keep S a w) {g : Nat} (hg : S g) (cs : Array Value) : Keep S a (w.setRow g cs) :=
  ⟨h.os, h.tape, h.output, by have := h.size; simpa [World.setRow] using this, fun k hk hs => (setRow_other w g k cs (fun e => hs (e ▸ hg))).trans (h.block k hk hs)⟩
theorem Keep.setRow_new {S : Nat → Prop} {a w : World} (h : Keep S a w) {g : Nat} (hg : a.heap.size ≤ g) (cs : Array Value) : Keep S a (w.setRow g cs) :=
  ⟨h.os, h.tape, h.output, by have := h.size; simpa [World.setRow] using this, fun k hk hs => (setRow_other w g k cs (by omega)).trans (h.block k hk hs)⟩
theorem Keep.setCell {S : Nat → Prop} {a w : World} (h : Keep S a w) {p : Addr} (hg : S p.block) (u : Value) : Keep S a (w.setCell p u) :=
  ⟨h.os, h.tape, h.output, by have := h.size; simpa [World.setCell] using this, fun k hk hs => (Below.heap_setCell w p u k (fun e => hs (e ▸ hg))).trans (h.block k hk hs)⟩
theorem Keep.setCell_new {S : Nat → Prop} {a w : World} (h : Keep S a w) {p : Addr} (hg : a.heap.size ≤ p.block) (u : Value) : Keep S a (w.setCell p u) :=
  ⟨h.os, h.tape, h.output, by have := h.size; simpa [World.setCell] using this, fun k hk hs => (Below.heap_setCell w p u k (by omega)).trans (h.block k hk hs)⟩
theorem Keep.grown {S : Nat → Prop} {a w w' : World} {row : Option Nat} (h : Keep S a w) (hg : w.grownBy w' row) (hr : ∀ k, row = some k → a.heap.size ≤ k ∨ S k) : Keep S a w' :=
  ⟨hg.os.trans h.os, hg.tape.trans h.tape, hg.output.trans h.output, Nat.le_trans h.size hg.size, fun k hk hs =>
    (hg.block k (Nat.lt_of_lt_of_le hk h.size) (fun e => by rcases hr k e.symm with h1 | h1 <;> first | omega | exact hs h1)).trans (h.block k hk hs)⟩
theorem Keep.below {w w' : World} (h : Keep (fun _ => False) w w') : Below w.heap.size w w' := ⟨h.os, h.tape, h.output, h.size, fun k hk => h.block k hk id⟩
theorem Keep.of_below {S : Nat → Prop} {w w' : World} (h : Below w.heap.size w w') : Keep S w w' := ⟨h.os, h.tape, h.output, h.size, fun k hk _ => h.block k hk⟩
theorem Keep.get {S : Nat → Prop} {w w' : World} (h : Keep S w w') {k : Nat} {o : Obj} (hk : w.heap[k]? = some o) (hs : ¬ S k) : w'.heap[k]? = some o :=
  (h.block k (Array.getElem?_eq_some_iff.1 hk).1 hs).trans hk

/-- A fact behind a name, kept from the walk. -/
theorem hid {p : Prop} (h : p) : Hid p := h

theorem lt_of_heap {w : World} {k : Nat} {o : Obj} (h : w.heap[k]? = some o) : k < w.heap.size := (Array.getElem?_eq_some_iff.1 h).1

/-- A cell of a block that is known whole. -/
theorem cell_of {w : World} {g : Nat} {cur : Array Value} {t : TypeId} {fr : Nat × Nat} (h : w.heap[g]? = some (.cells cur t fr)) {i : Nat} {v : Value} (hv : cur[i]? = some v) : w.cell? ⟨g, i, none⟩ = some v := by
  simp [World.cell?, h, hv]
theorem free_of {w : World} {g : Nat} {cur : Array Value} {t : TypeId} (h : w.heap[g]? = some (.cells cur t (0, 0))) (i : Nat) : w.frozen? ⟨g, i, none⟩ = false := by
  simp [World.frozen?, h]

/-- An owned row's block, known whole. -/
theorem owns_block {w : World} {base : Nat} {e : TypeId} {size : Nat} {v : Value} {n : Nat} {xs : List Value} (h : w.ownsRow base e size v n xs) :
    (v = .slice none 0 0 ∧ n = 0 ∧ xs = []) ∨ ∃ g cap cur, v = .slice (some ⟨g, 0, none⟩) n cap ∧ base ≤ g ∧ w.heap[g]? = some (.cells cur e (0, 0)) ∧ n ≤ cap ∧ cap ≤ maxLen ∧ cur.size = cap * size ∧ cur.toList.take (n * size) = xs := by
  obtain ⟨h1, h2 | h2⟩ := h
  · obtain ⟨rfl, rfl⟩ := h2
    exact .inl ⟨rfl, rfl, List.eq_nil_of_length_eq_zero (by simpa using h1)⟩
  · exact .inr h2

theorem owns_low {w : World} {base : Nat} {e : TypeId} {size : Nat} {v : Value} {n : Nat} {xs : List Value} (h : w.ownsRow base e size v n xs) : w.ownsRow 0 e size v n xs := by
  obtain ⟨h1, h2⟩ := h
  refine ⟨h1, ?_⟩
  rcases h2 with h2 | ⟨g, c, cur, e1, _, r⟩
  · exact .inl h2
  · exact .inr ⟨g, c, cur, e1, Nat.zero_le _, r⟩

theorem owns_some {w : World} {base : Nat} {e : TypeId} {size n c : Nat} {p : Option Addr} {xs : List Value} (h : w.ownsRow base e size (.slice p n c) n xs) (hn : 0 < n) : ∃ g, p = some ⟨g, 0, none⟩ := by
  rcases owns_block h with ⟨_, e2, _⟩ | ⟨g, cap, cur, e1, _⟩
  · omega
  · injection e1 with e1; exact ⟨g, e1⟩

/-- An element of an owned row of one-cell elements. -/
theorem owns_cell {w : World} {base : Nat} {e : TypeId} {g c n k : Nat} {xs : List Value} (h : w.ownsRow base e 1 (.slice (some ⟨g, 0, none⟩) n c) n xs) (hk : k < n) : w.cell? ⟨g, k, none⟩ = xs[k]? := by
  have hl := h.1
  have hk' : k < xs.length := by omega
  have := h.cells (g := g) rfl k xs[k] (List.getElem?_eq_getElem hk')
  have hadd : (⟨g, 0, none⟩ : Addr).add k = ⟨g, k, none⟩ := by unfold Addr.add; split <;> simp_all
  rw [hadd] at this
  rw [this, List.getElem?_eq_getElem hk']

theorem owns_free {w : World} {base : Nat} {e : TypeId} {size g c n : Nat} {xs : List Value} (h : w.ownsRow base e size (.slice (some ⟨g, 0, none⟩) n c) n xs) (k : Nat) : w.frozen? ⟨g, k, none⟩ = false := by
  rcases owns_block h with ⟨e1, _⟩ | ⟨g', c', cur, e1, _, hg, _⟩
  · cases e1
  · injection e1 with e1; injection e1 with e1; injection e1 with e1; subst e1
    exact free_of hg k

theorem owns_val {w : World} {base : Nat} {e : TypeId} {size : Nat} {v : Value} {n : Nat} {xs : List Value} (h : w.ownsRow base e size v n xs) : ∃ p c, v = .slice p n c := by
  rcases owns_block h with ⟨rfl, rfl, _⟩ | ⟨g, cap, cur, rfl, _⟩
  · exact ⟨none, 0, rfl⟩
  · exact ⟨_, _, rfl⟩

/-- An owned row in a world that keeps its block. -/
theorem owns_keep {w w' : World} {base : Nat} {e : TypeId} {size : Nat} {v : Value} {n : Nat} {xs : List Value} (h : w.ownsRow base e size v n xs)
    (hk : ∀ g, v.ownBlock = some g → w'.heap[g]? = w.heap[g]?) : w'.ownsRow base e size v n xs := by
  refine ⟨h.1, ?_⟩
  rcases h.2 with h2 | ⟨g, cap, cur, rfl, hb, hg, r⟩
  · exact .inl h2
  · exact .inr ⟨g, cap, cur, rfl, hb, by rw [hk g rfl]; exact hg, r⟩

/-- A store into a block that is known whole. -/
theorem hsc_same {w : World} {g : Nat} {cur : Array Value} {t : TypeId} {fr : Nat × Nat} (h : w.heap[g]? = some (.cells cur t fr)) (i : Nat) (u : Value) :
    (w.setCell ⟨g, i, none⟩ u).heap[g]? = some (.cells (cur.setIfInBounds i u) t fr) := by
  simp [World.setCell, Array.getElem?_modify, h]
theorem hsc_ne {w : World} {g k i : Nat} (u : Value) (h : k ≠ g) : (w.setCell ⟨g, i, none⟩ u).heap[k]? = w.heap[k]? := Below.heap_setCell w ⟨g, i, none⟩ u k h

def byteV (b : UInt8) : Value := .int .u8 b.toNat

theorem byteV_one (l : List UInt8) : ∀ v ∈ l.map byteV, v.oneCell' = true := by
  intro v hv
  obtain ⟨b, _, rfl⟩ := List.mem_map.1 hv
  rfl

/-- 'copy(dst, src)' out of a string into a row that is known whole. -/
theorem run_copy_string {P : Program} (w : World) (dT sT ty elem : TypeId) (g o dLen dCap : Nat) (s : ByteArray) (cur : Array Value) (t : TypeId)
    (hu : P.underlying dT = some (.slice elem)) (hs : (P.info? elem).map (·.size) = some 1)
    (hg : w.heap[g]? = some (.cells cur t (0, 0))) (hn : s.size ≤ dLen) (hfit : o + s.size ≤ cur.size) :
    (Builtin.copy_ #[dT, sT] ty #[.slice (some ⟨g, o, none⟩) dLen dCap, .string s]).run P w =
      .ok (goInt s.size) (w.setRow g (cur.toList.take o ++ s.data.toList.map byteV ++ cur.toList.drop (o + s.size)).toArray) := by
  have hst := run_storeCells_at P g o t (s.data.toList.map byteV) 0 cur w hg (by simpa using hfit) (byteV_one _)
  have hm : (s.data.map fun b => Value.int .u8 b.toNat) = (s.data.toList.map byteV).toArray := by
    apply Array.ext'; simp [byteV]
  cases hq : P.info? elem with
  | none => simp [hq] at hs
  | some i =>
    have hi : i.size = 1 := by simpa [hq] using hs
    have ht : List.take s.size (s.data.toList.map byteV) = s.data.toList.map byteV := List.take_of_length_le (by simp)
    simp only [List.length_map, Array.length_toList, Nat.add_zero] at hst
    simp [Builtin.copy_, run_underlying hu, Builtin.lenOf, Builtin.firstCells, sizeOf, typeInfo, hq, Nat.min_eq_left hn, hm, ht, hst]
/-- 'string(b)': the bytes of a piece of a block. -/
theorem run_bytes_string {P : Program} (w : World) (src dst e : TypeId) (hs : P.underlying src = some (.slice e)) (he : P.underlying e = some (.int .u8)) (hd : P.underlying dst = some .string)
    (b off len cap : Nat) (l : List UInt8) (hl : l.length = len) (hcell : ∀ i x, l[i]? = some x → w.cell? ⟨b, off + i, none⟩ = some (byteV x)) :
    (convert src dst (.slice (some ⟨b, off, none⟩) len cap)).run P w = .ok (.string ⟨l.toArray⟩) w := by
  have h := run_convert_bytes_arg (P := P) w src e hs he b off len cap (l.map fun b => (b.toNat : Int)) (by simpa using hl) (fun i hi => by
    have hlt : i < l.length := by omega
    rw [hcell i l[i] (List.getElem?_eq_getElem hlt)]
    simp [List.getD, hlt, byteV]) dst hd
  rw [h]
  have : strOfNums (l.map fun b => (b.toNat : Int)) = ⟨l.toArray⟩ := by
    have h2 : ∀ (a b : ByteArray), a.data.toList = b.data.toList → a = b := fun a b h => by
      cases a; cases b; simp at h; subst h; rfl
    refine h2 _ _ ?_
    rw [strOfNums_data, List.map_map]
    have : ((fun n : Int => UInt8.ofNat n.toNat) ∘ fun b : UInt8 => (b.toNat : Int)) = id := by funext x; simp
    rw [this]; simp
  rw [this]
/-- The slice value v reads as these cells, m elements of them (nil has none). -/
def Rd (w : World) (size : Nat) (v : Value) (m : Nat) (cells : List Value) : Prop :=
  cells.length = m * size ∧ (∀ u ∈ cells, u.oneCell' = true) ∧ ((v = .slice none 0 0 ∧ m = 0) ∨ ∃ ad c, v = .slice (some ad) m c ∧ ∀ j u, cells[j]? = some u → w.cell? (ad.add j) = some u)

theorem Rd.keep {w w' : World} {size : Nat} {v : Value} {m : Nat} {cells : List Value} (h : Rd w size v m cells) (hk : ∀ p u, w.cell? p = some u → w'.cell? p = some u) : Rd w' size v m cells := by
  refine ⟨h.1, h.2.1, ?_⟩
  rcases h.2.2 with h | ⟨ad, c, hv, hc⟩
  · exact .inl h
  · exact .inr ⟨ad, c, hv, fun j u hj => hk _ _ (hc j u hj)⟩

theorem rd_nil (w : World) (size : Nat) : Rd w size (.slice none 0 0) 0 [] := ⟨by simp, by simp, .inl ⟨rfl, rfl⟩⟩

theorem rd_own {w : World} {base : Nat} {e : TypeId} {size : Nat} {v : Value} {n : Nat} {xs : List Value} (h : w.ownsRow base e size v n xs) (h1 : ∀ u ∈ xs, u.oneCell' = true) : Rd w size v n xs := by
  refine ⟨h.1, h1, ?_⟩
  rcases owns_block h with ⟨rfl, rfl, _⟩ | ⟨g, cap, cur, rfl, _, _, _⟩
  · exact .inl ⟨rfl, rfl⟩
  · exact .inr ⟨_, _, rfl, h.cells rfl⟩

/-- A block of one element's cells, just laid. -/
theorem rd_block {w : World} {g : Nat} {cs : List Value} {t : TypeId} {size m c : Nat} {fr : Nat × Nat} (hg : w.heap[g]? = some (.cells cs.toArray t fr)) (hl : cs.length = m * size) (h1 : ∀ u ∈ cs, u.oneCell' = true) :
    Rd w size (.slice (some ⟨g, 0, none⟩) m c) m cs := by
  refine ⟨hl, h1, .inr ⟨_, _, rfl, fun j u hj => ?_⟩⟩
  have hadd : (⟨g, 0, none⟩ : Addr).add j = ⟨g, j, none⟩ := by unfold Addr.add; split <;> simp_all
  rw [hadd]
  exact cell_of hg (by simpa using hj)

/-- append, whatever is appended. -/
theorem wpList_append_rd {P : Program} {w : World} {ops : Array Oper} {rest : List Oper} {o : Oper} {a : Act} {Q : Exit → Act → World → Prop} (hgd : o.guard = none) (s x : Operand) (t : TypeId)
    (ho : o.op = .call { callee := .builtin .append, args := #[s, x], argTypes := #[t, t] })
    (base : Nat) (e : TypeId) (i : TypeInfo) (z : Value) (size bytes : Nat) (ht : P.underlying t = some (.slice e)) (hi : P.info? e = some i) (hz : i.zero = some z)
    (hsize : i.size = size) (hby : i.bytes = bytes) (hzs : z.cells.size = size) (hsz : 0 < size)
    (v : Value) (n : Nat) (xs : List Value) (hs : a.eval s = v) (hown : w.ownsRow base e size v n xs)
    (u : Value) (m : Nat) (news : List Value) (hx : a.eval x = u) (hrd : Rd w size u m news)
    (h63 : n + m ≤ maxLen) (hbytes : (n + m) * bytes ≤ 140737488355328) (hbase : base ≤ w.heap.size)
    (h : ∀ v' w', w'.ownsRow base e size v' (n + m) (xs ++ news) → w.grownBy w' v.ownBlock → (v'.ownBlock = v.ownBlock ∨ v'.ownBlock = some w.heap.size) → (v' = .slice none 0 0 ↔ v = .slice none 0 0 ∧ m = 0) → wpList P ops Q rest (a.put o.dst v') w') :
    wpList P ops Q (o :: rest) a w := by
  rcases hrd.2.2 with ⟨rfl, rfl⟩ | ⟨ad, c, rfl, hc⟩
  · have hn : news = [] := List.eq_nil_of_length_eq_zero (by simpa using hrd.1)
    subst hn
    refine wpList_plain hgd fun K hK => ?_
    have hrun : (Builtin.append_ #[t, t] o.type #[v, .slice none 0 0]).run P w = .ok v w := by
      rcases owns_block hown with ⟨rfl, rfl, _⟩ | ⟨g, cap, cur, rfl, _, _, hn, _⟩
      · simp [Builtin.append_, run_underlying ht, sizeOf, typeInfo, hi, Builtin.lenOf, Builtin.firstCells]
      · simp [Builtin.append_, run_underlying ht, sizeOf, typeInfo, hi, Builtin.lenOf, Builtin.firstCells, hn, storeCells]
    unfold Oper.wp execOp
    simp only [ho, resolve, invoke, builtin, Sem.run_bind, Sem.run_pure, Result.andThen_ok, List.map_toArray, List.map_cons, List.map_nil, hs, hx, hrun]
    exact hK _ _ (h v w (by simpa using hown) ⟨rfl, rfl, rfl, Nat.le_refl _, fun _ _ _ => rfl⟩ (.inl rfl) (by simp))
  · exact wpList_append_own_at w hgd s x t ho base e i z size bytes ht hi hz hsize hby hzs hsz v n xs hs hown ad m c news hx hrd.1 hc hrd.2.1 h63 hbytes hbase (fun v' w' h1 h2 h3 h4 => h v' w' h1 h2 h4 h3)
end Go.Proofs.Heap

namespace Go.Proofs.Sch
open Go.RowKit Go.Proofs.Heap

/-- A field. -/
structure Fld where
  name : ByteArray
  kind : Int
  count : Int
/-- A component. -/
structure Cmp where
  id : Int
  name : ByteArray
  fs : List Fld

/-- A row of things, each of z cells, in a block below a bound. -/
def RowP {α : Type} (z : Nat) (at_ : World → Nat → Nat → α → Prop) (w : World) (B : Nat) (p : Option Addr) (l : List α) : Prop :=
  l = [] ∨ ∃ b off, p = some ⟨b, off, none⟩ ∧ b < B ∧ ∀ i x, l[i]? = some x → at_ w b (off + i * z) x

def FldAt (w : World) (b o : Nat) (f : Fld) : Prop := w.cell? ⟨b, o, none⟩ = some (.string f.name) ∧ w.cell? ⟨b, o + 1, none⟩ = some (.int .i64 f.kind) ∧ w.cell? ⟨b, o + 2, none⟩ = some (.int .i64 f.count)
abbrev FP := RowP 3 FldAt
def CmpAt (B : Nat) (w : World) (b o : Nat) (c : Cmp) : Prop := w.cell? ⟨b, o, none⟩ = some (.int .i64 c.id) ∧ w.cell? ⟨b, o + 1, none⟩ = some (.string c.name) ∧
  ∃ p k, w.cell? ⟨b, o + 2, none⟩ = some (.slice p c.fs.length k) ∧ c.fs.length ≤ k ∧ FP w B p c.fs
def CP (w : World) (B : Nat) (p : Option Addr) (l : List Cmp) : Prop := RowP 3 (CmpAt B) w B p l

section
variable {w w' : World} {B B' : Nat} {p : Option Addr}

theorem RowP.imp {α : Type} {z : Nat} {at1 at2 : World → Nat → Nat → α → Prop} {l : List α} (h : RowP z at1 w B p l) (hB : B ≤ B') (ha : ∀ b o x, b < B → at1 w b o x → at2 w' b o x) : RowP z at2 w' B' p l := by
  rcases h with h | ⟨b, off, hp, hb, hc⟩
  · exact .inl h
  · exact .inr ⟨b, off, hp, by omega, fun i x hi => ha b _ x hb (hc i x hi)⟩

/-- Blocks below a bound are unchanged. -/
def Low (B : Nat) (w w' : World) : Prop := ∀ b, b < B → w'.heap[b]? = w.heap[b]?
theorem Low.refl : Low B w w := fun _ _ => rfl
theorem Low.trans {w2 : World} (h : Low B w w') (h2 : Low B w' w2) : Low B w w2 := fun b hb => (h2 b hb).trans (h b hb)
theorem Low.of_keep {S : Nat → Prop} (hk : Keep S w w') (hB : B ≤ w.heap.size) (hS : ∀ k, S k → B ≤ k) : Low B w w' := fun b hb => hk.block b (by omega) (fun h => by have := hS b h; omega)
theorem Low.keep0 (hk : Keep (fun _ => False) w w') : Low w.heap.size w w' := Low.of_keep hk (Nat.le_refl _) (fun _ h => h.elim)
theorem Low.cell (h : Low B w w') {b o : Nat} (hb : b < B) : w'.cell? ⟨b, o, none⟩ = w.cell? ⟨b, o, none⟩ := World.cell?_of_block (a := ⟨b, o, none⟩) (h b hb)

theorem FP.low {l : List Fld} (h : FP w B p l) (hl : Low B w w') : FP w' B p l :=
  RowP.imp h (Nat.le_refl _) fun b o x hb hx => ⟨by rw [hl.cell hb]; exact hx.1, by rw [hl.cell hb]; exact hx.2.1, by rw [hl.cell hb]; exact hx.2.2⟩
theorem FP.mono {l : List Fld} (h : FP w B p l) (hB : B ≤ B') : FP w B' p l := RowP.imp h hB fun _ _ _ _ hx => hx
theorem CP.low {l : List Cmp} (h : CP w B p l) (hl : Low B w w') : CP w' B p l :=
  RowP.imp h (Nat.le_refl _) fun b o x hb hx => by
    obtain ⟨h1, h2, q, k, h3, h4, h5⟩ := hx
    exact ⟨by rw [hl.cell hb]; exact h1, by rw [hl.cell hb]; exact h2, q, k, by rw [hl.cell hb]; exact h3, h4, FP.low h5 hl⟩
theorem CP.mono {l : List Cmp} (h : CP w B p l) (hB : B ≤ B') : CP w B' p l :=
  RowP.imp h hB fun b o x hb hx => by
    obtain ⟨h1, h2, q, k, h3, h4, h5⟩ := hx
    exact ⟨h1, h2, q, k, h3, h4, FP.mono h5 hB⟩

/-- A field of a row. -/
theorem FP.at {l : List Fld} (h : FP w B p l) {i : Nat} {f : Fld} (hi : l[i]? = some f) : ∃ b off, p = some ⟨b, off, none⟩ ∧ b < B ∧ w.cell? ⟨b, off + i * 3, none⟩ = some (.string f.name) ∧ w.cell? ⟨b, off + i * 3 + 1, none⟩ = some (.int .i64 f.kind) ∧ w.cell? ⟨b, off + i * 3 + 2, none⟩ = some (.int .i64 f.count) := by
  rcases h with rfl | ⟨b, off, hp, hb, hc⟩
  · simp at hi
  · obtain ⟨h1, h2, h3⟩ := hc i f hi
    exact ⟨b, off, hp, hb, h1, h2, h3⟩
theorem CP.at {l : List Cmp} (h : CP w B p l) {i : Nat} {c : Cmp} (hi : l[i]? = some c) : ∃ b off q k, p = some ⟨b, off, none⟩ ∧ b < B ∧ w.cell? ⟨b, off + i * 3, none⟩ = some (.int .i64 c.id) ∧ w.cell? ⟨b, off + i * 3 + 1, none⟩ = some (.string c.name) ∧
    w.cell? ⟨b, off + i * 3 + 2, none⟩ = some (.slice q c.fs.length k) ∧ c.fs.length ≤ k ∧ FP w B q c.fs := by
  rcases h with rfl | ⟨b, off, hp, hb, hc⟩
  · simp at hi
  · obtain ⟨h1, h2, q, k, h3, h4, h5⟩ := hc i c hi
    exact ⟨b, off, q, k, hp, hb, h1, h2, h3, h4, h5⟩
end
end Go.Proofs.Sch

namespace Go.Proofs.YtlhdofkgcbmnnaaGreatDoor
open Go.RowKit Go.Proofs.Heap

def letN (x : Int) : Bool := decide (97 ≤ x) && decide (x ≤ 122)
def digN (x : Int) : Bool := decide (48 ≤ x) && decide (x ≤ 57)
def byteN (s : ByteArray) (i : Nat) : Int := ((s.get! i).toNat : Int)
/-- Whether a text is a name. -/
def nameB (s : ByteArray) : Bool := decide (1 ≤ s.size ∧ s.size ≤ 12 ∧ letN (byteN s 0) = true ∧ ∀ i, i < s.size → (letN (byteN s i) || digN (byteN s i)) = true)

theorem tl_eq (s : ByteArray) : s.toList = s.data.toList := ByteArray.toList_eq s
theorem empty_no {s : ByteArray} (h : s.size ≠ 0) : s.toList.isEmpty = false := by
  rw [tl_eq]
  cases e : s.data.toList with
  | nil => have e2 := congrArg List.length e; rw [Array.length_toList] at e2; exact absurd e2 h
  | cons _ _ => rfl
theorem empty_yes {s : ByteArray} (h : s.size = 0) : s.toList.isEmpty = true := by
  rw [tl_eq]
  cases e : s.data.toList with
  | nil => rfl
  | cons a l => have e2 := congrArg List.length e; rw [Array.length_toList] at e2; exact absurd (h.symm.trans e2) (by simp)
theorem seq_dec (a b : ByteArray) : (a.toList == b.toList) = decide (a = b) := by
  rw [tl_eq, tl_eq]
  by_cases h : a = b
  · subst h; simp
  · have : ¬ a.data.toList = b.data.toList := fun e => h (by cases a; cases b; simp at e; simp [e])
    rw [decide_eq_false h]
    simpa using this
theorem byte_at (s : ByteArray) (i : Nat) (h : i < s.size) : ((s[i]'h).toNat : Int) = byteN s i := by
  unfold byteN
  cases s with
  | mk d => rw [show (ByteArray.mk d).get! i = d[i]'h from getElem!_pos d i h]; rfl
theorem nameB_short {s : ByteArray} (h : s.size = 0 ∨ 12 < s.size) : nameB s = false := decide_eq_false (fun hh => by omega)
theorem nameB_first {s : ByteArray} (h : letN (byteN s 0) = false) : nameB s = false := decide_eq_false (fun hh => by rw [h] at hh; exact Bool.noConfusion hh.2.2.1)
theorem nameB_bad {s : ByteArray} {i : Nat} (hi : i < s.size) (h : (letN (byteN s i) || digN (byteN s i)) = false) : nameB s = false := decide_eq_false (fun hh => by have := hh.2.2.2 i hi; rw [h] at this; cases this)
theorem nameB_good {s : ByteArray} (h1 : 1 ≤ s.size) (h2 : s.size ≤ 12) (h3 : letN (byteN s 0) = true) (h4 : ∀ i, i < s.size → (letN (byteN s i) || digN (byteN s i)) = true) : nameB s = true := decide_eq_true ⟨h1, h2, h3, h4⟩

end Go.Proofs.YtlhdofkgcbmnnaaGreatDoor

namespace Go.Proofs.Heap
open Go.RowKit

theorem results_c {fn : Func} {p : Tmp} {ty : TypeId} (h : fn.results = #[.cell p ty]) (tmps : Array Value) {P : Program} {w : World} {ad : Addr} {v : Value}
    (hp : tmps.getD p undef = .pointer (some ad)) (hl : (loadVar ty ad).run P w = .ok v w) : (results fn tmps).run P w = .ok v w := by
  have hp' : tmps[p]?.getD undef = .pointer (some ad) := by simpa using hp
  simp [results, h, hp', asAddr, hl]
theorem results_ct {fn : Func} {p u : Tmp} {ty : TypeId} (h : fn.results = #[.cell p ty, .tmp u]) (tmps : Array Value) {P : Program} {w : World} {ad : Addr} {v : Value}
    (hp : tmps.getD p undef = .pointer (some ad)) (hl : (loadVar ty ad).run P w = .ok v w) : (results fn tmps).run P w = .ok (.tuple #[v, tmps.getD u undef]) w := by
  have hp' : tmps[p]?.getD undef = .pointer (some ad) := by simpa using hp
  simp [results, h, hp', asAddr, hl]
theorem cells2 {w : World} {b : Nat} {t : TypeId} {v0 v1 : Value} (x0 x1 : Value) (h : w.heap[b]? = some (.cells #[v0, v1] t (0, 0))) :
    ((w.setCell ⟨b, 0, none⟩ x0).setCell ⟨b, 1, none⟩ x1).heap[b]? = some (.cells #[x0, x1] t (0, 0)) := by
  rw [hsc_same (hsc_same h 0 x0) 1 x1]; rfl
theorem cells3 {w : World} {b : Nat} {t : TypeId} {v0 v1 v2 : Value} (x0 x1 x2 : Value) (h : w.heap[b]? = some (.cells #[v0, v1, v2] t (0, 0))) :
    (((w.setCell ⟨b, 0, none⟩ x0).setCell ⟨b, 1, none⟩ x1).setCell ⟨b, 2, none⟩ x2).heap[b]? = some (.cells #[x0, x1, x2] t (0, 0)) := by
  rw [hsc_same (hsc_same (hsc_same h 0 x0) 1 x1) 2 x2]; rfl
theorem owns_mono {w : World} {base b' : Nat} {e : TypeId} {size : Nat} {v : Value} {n : Nat} {xs : List Value} (h : w.ownsRow base e size v n xs) (hb : b' ≤ base) : w.ownsRow b' e size v n xs := by
  obtain ⟨h1, h2⟩ := h
  refine ⟨h1, ?_⟩
  rcases h2 with h2 | ⟨g, cap, cur, h3, h4, h5⟩
  · exact .inl h2
  · exact .inr ⟨g, cap, cur, h3, by omega, h5⟩
/-- A walk that turned only what was new. -/
theorem keep_new {w0 w w' : World} {S : Nat → Prop} (h0 : Keep (fun _ => False) w0 w) (hk : Keep S w w') (hS : ∀ k, S k → w0.heap.size ≤ k) : Keep (fun _ => False) w0 w' :=
  h0.trans' hk (fun i hi h => absurd (hS i h) (by omega))
end Go.Proofs.Heap

namespace Go.Proofs.YtlhdofkgcbmnnaaGreatDoor
open Go.RowKit Go.Proofs.Heap

def kindB (k : Int) : Bool := decide (1 ≤ k ∧ k ≤ 10)
/-- How many bytes an element of a kind has; nought: there is no such kind. -/
def sizeK (k : Int) : Int := if k = 1 ∨ k = 2 ∨ k = 6 then 1 else if k = 3 ∨ k = 7 then 2 else if k = 4 ∨ k = 8 then 4 else if k = 5 ∨ k = 9 ∨ k = 10 then 8 else 0
def signK (k : Int) : Bool := decide (2 ≤ k ∧ k ≤ 5)

end Go.Proofs.YtlhdofkgcbmnnaaGreatDoor

namespace Go.Proofs.YtlhdofkgcbmnnaaGreatDoor
open Go.RowKit Go.Proofs.Heap Go.Proofs.Sch

abbrev iV (n : Nat) : Value := .int .i64 (n : Int)
def upN (a s : Nat) : Nat := (a + s - 1) / s * s

theorem up_le (a s : Nat) (_ : 1 ≤ s) : upN a s ≤ a + s - 1 := Nat.div_mul_le_self _ _
theorem up_cast (a s : Nat) (hs : 1 ≤ s) : ((a : Int) + (s : Int) - 1) / (s : Int) * (s : Int) = ((upN a s : Nat) : Int) := by
  have h : ((a : Int) + (s : Int) - 1) = ((a + s - 1 : Nat) : Int) := by omega
  rw [h, ← Int.natCast_ediv, ← Int.natCast_mul]
  rfl

def szN (k : Int) : Nat := (sizeK k).toNat
theorem sz_cast (k : Int) : sizeK k = ((szN k : Nat) : Int) := by
  unfold szN sizeK
  repeat' split
  all_goals rfl
theorem sz_le (k : Int) : szN k ≤ 8 := by
  unfold szN sizeK
  repeat' split
  all_goals decide
/-- A field that can be. -/
def okF (f : Fld) : Prop := 1 ≤ szN f.kind ∧ 1 ≤ f.count ∧ f.count ≤ 8
def pStep (st : Nat × Nat × List Nat) (f : Fld) : Nat × Nat × List Nat :=
  (upN st.1 (szN f.kind) + szN f.kind * f.count.toNat, max st.2.1 (szN f.kind), st.2.2 ++ [upN st.1 (szN f.kind)])
def pRun (fs : List Fld) : Nat × Nat × List Nat := fs.foldl pStep (0, 1, [])
def pSize (fs : List Fld) : Nat := upN (pRun fs).1 (pRun fs).2.1

theorem take_next {α : Type} {l : List α} {k : Nat} {x : α} (h : l[k]? = some x) : l.take (k + 1) = l.take k ++ [x] := by
  rw [List.take_add_one, h]; rfl
theorem pRun_next {fs : List Fld} {k : Nat} {f : Fld} (h : fs[k]? = some f) : pRun (fs.take (k + 1)) = pStep (pRun (fs.take k)) f := by
  unfold pRun; rw [take_next h, List.foldl_append]; rfl
theorem mul_le8 {a b : Nat} (ha : a ≤ 8) (hb : b ≤ 8) : a * b ≤ 64 := Nat.mul_le_mul ha hb
theorem pStep_le {st : Nat × Nat × List Nat} {f : Fld} {m : Nat} (h1 : st.1 ≤ m) (h2 : 1 ≤ st.2.1 ∧ st.2.1 ≤ 8) (hf : okF f) : (pStep st f).1 ≤ m + 71 ∧ (1 ≤ (pStep st f).2.1 ∧ (pStep st f).2.1 ≤ 8) := by
  have a1 := up_le st.1 (szN f.kind) hf.1
  have a2 := sz_le f.kind
  have a3 := mul_le8 a2 (show f.count.toNat ≤ 8 by have := hf.2; omega)
  unfold pStep
  refine ⟨?_, ?_⟩ <;> dsimp only <;> omega

instance (f : Fld) : Decidable (okF f) := inferInstanceAs (Decidable (_ ∧ _))
/-- The error of fields: none, one that can't be, or no room. -/
def layC (fs : List Fld) : Nat := if 8 < fs.length then 1 else if ∀ f ∈ fs, okF f then (if 256 < pSize fs then 5 else 0) else 1

theorem info_int : (Tryz.prog.info? 3).map (fun i => (i.zero, i.size, i.bytes)) = some (some (.int .i64 0), 1, 8) := by kernel_rfl
theorem info_parts' {P : Program} {t : TypeId} {z : Value} {n m : Nat} (h : (P.info? t).map (fun i => (i.zero, i.size, i.bytes)) = some (some z, n, m)) : ∃ i, P.info? t = some i ∧ i.zero = some z ∧ i.size = n ∧ i.bytes = m := by
  cases e : P.info? t with
  | none => rw [e] at h; cases h
  | some i => rw [e] at h; simp at h; exact ⟨i, rfl, h.1, h.2.1, h.2.2⟩

end Go.Proofs.YtlhdofkgcbmnnaaGreatDoor

namespace Go.Proofs.Wide
/-- A great number: its sign and its size's two words. -/
structure WI where
  neg : Bool
  hi : Nat
  lo : Nat
def WI.mag (x : WI) : Nat := x.hi * 18446744073709551616 + x.lo
def WI.val (x : WI) : Int := if x.neg = true then -(x.mag : Int) else (x.mag : Int)
/-- Whether a number is in form. -/
def WI.form (x : WI) : Bool := decide (x.hi < 9223372036854775808) && (!x.neg || decide (x.mag ≠ 0))
def WI.fit (x : WI) : Prop := x.hi < 18446744073709551616 ∧ x.lo < 18446744073709551616
def cmpN (a b : Nat) : Int := if b < a then 1 else if a = b then 0 else -1
def cmpI (a b : Int) : Int := if b < a then 1 else if a = b then 0 else -1
/-- Which of two numbers is greater; nought where one isn't in form. -/
def cmpW (x y : WI) : Int := if x.form = true ∧ y.form = true then cmpI x.val y.val else 0
end Go.Proofs.Wide
namespace Go.Proofs.YtlhdofkgcbmnnaaGreatDoor
open Go.RowKit Go.Proofs.Heap Go.Proofs.Wide

abbrev WV (x : WI) : Value := .agg #[.bool x.neg, .int .u64 (x.hi : Int), .int .u64 (x.lo : Int)]
abbrev WC (x : WI) : Array Value := #[.bool x.neg, .int .u64 (x.hi : Int), .int .u64 (x.lo : Int)]

theorem wraps64 (n : Int) (h₀ : 0 ≤ n) (h₁ : n < 2 ^ 64) : IntKind.u64.wrap n = n := by
  have : IntKind.u64.wrap n = n % 18446744073709551616 := by simp [IntKind.wrap, IntKind.bits, IntKind.signed]
  omega
theorem or_zero (a b : Nat) (ha : a < 18446744073709551616) (hb : b < 18446744073709551616) : ∃ z : Nat, bits .or .u64 (a : Int) (b : Int) = (z : Int) ∧ (z = 0 ↔ a = 0 ∧ b = 0) := by
  refine ⟨a ||| b, (bits_nat .u64 64 (by decide) wraps64 a b ha hb).2, ?_⟩
  exact Nat.or_eq_zero_iff

set_option maxRecDepth 20000 in
theorem w_form (x : WI) (hx : x.fit) (w : World) : Calls Tryz.prog 113 #[WV x] w fun r w' => r = .returned (.bool x.form) ∧ Keep (fun _ => False) w w' := by
  obtain ⟨ng, hi, lo⟩ := x
  obtain ⟨h1, h2⟩ := hx
  simp only at h1 h2
  obtain ⟨z, hz, hz0⟩ := or_zero hi lo h1 h2
  have HK := hid ((Keep.refl (fun _ => False) w).alloc (.cells #[.bool ng, .int .u64 (hi : Int), .int .u64 (lo : Int)] 64))
  have HF : Hid (WI.form ⟨ng, hi, lo⟩ = (decide (hi < 9223372036854775808) && (!ng || decide (z ≠ 0)))) := hid (by
    unfold WI.form WI.mag
    have e : decide (hi * 18446744073709551616 + lo ≠ 0) = decide (z ≠ 0) := by
      have : (hi * 18446744073709551616 + lo ≠ 0) ↔ z ≠ 0 := by rw [Ne, Ne, hz0]; omega
      simp only [this]
    simp only [e])
  clear hz0
  go_enter Tryz.func113, Tryz.ntmps113
  by_cases g : hi < 9223372036854775808
  · have g1 : decide ((hi : Int) < 9223372036854775808) = true := decide_eq_true (by omega)
    cases ng
    · go_wp2
      go_ret
      exact ⟨by rw [HF.out]; simp [g], HK.out⟩
    · by_cases hz1 : z = 0
      · have g2 : ((z : Int) == 0) = true := beq_iff_eq.2 (by omega)
        have g3 : ((z : Int) != 0) = false := by rw [bne, g2]; rfl
        go_wp2
        go_ret
        exact ⟨by rw [HF.out]; simp [g, hz1], HK.out⟩
      · have g2 : ((z : Int) == 0) = false := beq_eq_false_iff_ne.2 (by omega)
        have g3 : ((z : Int) != 0) = true := by rw [bne, g2]; rfl
        go_wp2
        go_ret
        exact ⟨by rw [HF.out]; simp [g, hz1], HK.out⟩
  · have g1 : decide ((hi : Int) < 9223372036854775808) = false := decide_eq_false (by omega)
    go_wp2
    go_ret
    exact ⟨by rw [HF.out]; simp [g], HK.out⟩

set_option maxRecDepth 20000 in
theorem w_size (x y : WI) (hx : x.fit) (hy : y.fit) (w : World) : Calls Tryz.prog 122 #[WV x, WV y] w fun r w' => r = .returned (.int .i64 (cmpN x.mag y.mag)) ∧ Keep (fun _ => False) w w' := by
  obtain ⟨xn, xh, xl⟩ := x
  obtain ⟨yn, yh, yl⟩ := y
  obtain ⟨h1, h2⟩ := hx
  obtain ⟨h3, h4⟩ := hy
  simp only at h1 h2 h3 h4
  have HK := hid (((Keep.refl (fun _ => False) w).alloc (.cells #[.bool xn, .int .u64 (xh : Int), .int .u64 (xl : Int)] 64)).alloc (.cells #[.bool yn, .int .u64 (yh : Int), .int .u64 (yl : Int)] 64))
  have HC : Hid (cmpN (WI.mag ⟨xn, xh, xl⟩) (WI.mag ⟨yn, yh, yl⟩) = if yh < xh ∨ (xh = yh ∧ yl < xl) then 1 else if xh = yh ∧ xl = yl then 0 else -1) := hid (by
    unfold cmpN WI.mag
    simp only
    by_cases a : yh < xh ∨ (xh = yh ∧ yl < xl)
    · rw [if_pos a, if_pos (by omega)]
    · rw [if_neg a, if_neg (by omega)]
      by_cases b : xh = yh ∧ xl = yl
      · rw [if_pos b, if_pos (by omega)]
      · rw [if_neg b, if_neg (by omega)])
  go_enter Tryz.func122, Tryz.ntmps122
  by_cases a1 : yh < xh
  · have g1 : decide ((yh : Int) < (xh : Int)) = true := decide_eq_true (by omega)
    have g2 : decide (yh < xh) = true := decide_eq_true a1
    have G := hid (HC.out.trans (if_pos (.inl a1)))
    clear HC
    go_wp2
    go_ret
    exact ⟨by rw [G.out]; rfl, HK.out⟩
  have g1 : decide ((yh : Int) < (xh : Int)) = false := decide_eq_false (by omega)
  have g2 : decide (yh < xh) = false := decide_eq_false a1
  by_cases a2 : xh = yh
  · have g3 : ((xh : Int) == (yh : Int)) = true := beq_iff_eq.2 (by omega)
    have g4 : (xh == yh) = true := beq_iff_eq.2 a2
    by_cases a3 : yl < xl
    · have g5 : decide ((yl : Int) < (xl : Int)) = true := decide_eq_true (by omega)
      have g6 : decide (yl < xl) = true := decide_eq_true a3
      have G := hid (HC.out.trans (if_pos (.inr ⟨a2, a3⟩)))
      clear HC a2
      go_wp2
      go_ret
      exact ⟨by rw [G.out]; rfl, HK.out⟩
    have g5 : decide ((yl : Int) < (xl : Int)) = false := decide_eq_false (by omega)
    have g6 : decide (yl < xl) = false := decide_eq_false a3
    by_cases a4 : xl = yl
    · have g7 : ((xl : Int) == (yl : Int)) = true := beq_iff_eq.2 (by omega)
      have g8 : (xl == yl) = true := beq_iff_eq.2 a4
      have G := hid (HC.out.trans ((if_neg (by omega)).trans (if_pos ⟨a2, a4⟩)))
      clear HC a2 a4
      go_wp2
      go_ret
      exact ⟨by rw [G.out]; rfl, HK.out⟩
    · have g7 : ((xl : Int) == (yl : Int)) = false := beq_eq_false_iff_ne.2 (by omega)
      have g8 : (xl == yl) = false := beq_eq_false_iff_ne.2 a4
      have G := hid (HC.out.trans ((if_neg (by omega)).trans (if_neg (by omega))))
      clear HC a2 a4
      go_wp2
      go_ret
      exact ⟨by rw [G.out]; rfl, HK.out⟩
  · have g3 : ((xh : Int) == (yh : Int)) = false := beq_eq_false_iff_ne.2 (by omega)
    have g4 : (xh == yh) = false := beq_eq_false_iff_ne.2 a2
    have G := hid (HC.out.trans ((if_neg (by omega)).trans (if_neg (by omega))))
    clear HC a2
    go_wp2
    go_ret
    exact ⟨by rw [G.out]; rfl, HK.out⟩

theorem form_zero {x : WI} (h : x.form = true) (hn : x.neg = true) : x.mag ≠ 0 := by
  unfold WI.form at h
  rw [hn] at h
  simp at h
  exact h.2

set_option maxRecDepth 20000 in
set_option maxHeartbeats 1000000 in
theorem w_cmp (x y : WI) (hx : x.fit) (hy : y.fit) (w : World) : Calls Tryz.prog 101 #[WV x, WV y] w fun r w' => r = .returned (.int .i64 (cmpW x y)) ∧ Keep (fun _ => False) w w' := by
  have hk0 : Keep (fun _ => False) w ((w.alloc (.cells (WC x) 64)).alloc (.cells (WC y) 64)) := ((Keep.refl (fun _ => False) w).alloc _).alloc _
  have hb1 : ((w.alloc (.cells (WC x) 64)).alloc (.cells (WC y) 64)).heap[w.heap.size]? = some (.cells (WC x) 64 (0, 0)) := (((Keep.refl (fun _ => False) _).alloc _).get (heap_alloc_new w _) (fun h => h))
  have hb2 : ((w.alloc (.cells (WC x) 64)).alloc (.cells (WC y) 64)).heap[w.heap.size + 1]? = some (.cells (WC y) 64 (0, 0)) := by
    have := heap_alloc_new (w.alloc (.cells (WC x) 64)) (.cells (WC y) 64)
    simpa using this
  have HK0 := hid hk0; have HB1 := hid hb1; have HB2 := hid hb2
  clear hk0 hb1 hb2
  go_enter Tryz.func101, Tryz.ntmps101
  go_upto_region 1 with fail
  generalize (w.alloc (.cells (WC x) 64)).alloc (.cells (WC y) 64) = w0 at *
  generalize w.heap.size = sb at *
  have facts : ∀ wy, Keep (fun _ => False) w0 wy → (wy.cell? ⟨sb, 0, none⟩ = some (.bool x.neg) ∧ wy.cell? ⟨sb, 1, none⟩ = some (.int .u64 (x.hi : Int)) ∧ wy.cell? ⟨sb, 2, none⟩ = some (.int .u64 (x.lo : Int))) ∧ (wy.cell? ⟨sb + 1, 0, none⟩ = some (.bool y.neg) ∧ wy.cell? ⟨sb + 1, 1, none⟩ = some (.int .u64 (y.hi : Int)) ∧ wy.cell? ⟨sb + 1, 2, none⟩ = some (.int .u64 (y.lo : Int))) := fun wy hk =>
    ⟨⟨cell_of (hk.get HB1.out (fun h => h)) (by rfl), cell_of (hk.get HB1.out (fun h => h)) (by rfl), cell_of (hk.get HB1.out (fun h => h)) (by rfl)⟩, ⟨cell_of (hk.get HB2.out (fun h => h)) (by rfl), cell_of (hk.get HB2.out (fun h => h)) (by rfl), cell_of (hk.get HB2.out (fun h => h)) (by rfl)⟩⟩
  have FA := hid facts
  obtain ⟨⟨a0, a1, a2⟩, b0, b1, b2⟩ := facts w0 (Keep.refl _ _)
  clear facts
  have HX := hid hx; have HY := hid hy
  clear hx hy
  go_wp2_with fail
  refine (w_form x HX.out _).mono ?_
  rintro r w1 ⟨rfl, hk1⟩
  have HK1 := hid hk1
  clear hk1 a0 a1 a2 b0 b1 b2
  obtain ⟨⟨a0, a1, a2⟩, b0, b1, b2⟩ := FA.out w1 HK1.out
  cases fx : x.form
  · have G : Hid (cmpW x y = 0) := hid (if_neg (by rw [fx]; simp))
    clear fx
    go_wp2
    go_ret
    exact ⟨by rw [G.out]; rfl, HK0.out.trans HK1.out⟩
  go_wp2_with fail
  refine (w_form y HY.out _).mono ?_
  rintro r w2 ⟨rfl, hk2⟩
  have HK2 := hid (HK1.out.trans hk2)
  clear hk2 a0 a1 a2 b0 b1 b2
  obtain ⟨⟨a0, a1, a2⟩, b0, b1, b2⟩ := FA.out w2 HK2.out
  cases fy : y.form
  · have G : Hid (cmpW x y = 0) := hid (if_neg (by rw [fy]; simp))
    clear fx fy
    go_wp2
    go_ret
    exact ⟨by rw [G.out]; rfl, HK0.out.trans HK2.out⟩
  have FX := hid fx; have FY := hid fy
  clear fx fy
  obtain ⟨xn, xh, xl⟩ := x
  obtain ⟨yn, yh, yl⟩ := y
  simp only at a0 a1 a2 b0 b1 b2
  cases xn <;> cases yn
  · have G : Hid (cmpI (WI.val ⟨false, xh, xl⟩) (WI.val ⟨false, yh, yl⟩) = cmpN (WI.mag ⟨false, xh, xl⟩) (WI.mag ⟨false, yh, yl⟩)) := hid (by
      unfold cmpI cmpN WI.val
      simp only [Bool.false_eq_true, if_false]
      generalize WI.mag ⟨false, xh, xl⟩ = a
      generalize WI.mag ⟨false, yh, yl⟩ = b
      by_cases c1 : b < a
      · rw [if_pos (by omega), if_pos c1]
      · rw [if_neg (by omega), if_neg c1]
        by_cases c2 : a = b
        · rw [if_pos (by omega), if_pos c2]
        · rw [if_neg (by omega), if_neg c2])
    go_wp2_with fail
    refine (w_size ⟨false, xh, xl⟩ ⟨false, yh, yl⟩ HX.out HY.out _).mono ?_
    rintro r w3 ⟨rfl, hk3⟩
    have HK3 := hid (HK2.out.trans hk3)
    clear hk3
    go_wp2
    go_ret
    exact ⟨by rw [cmpW, if_pos ⟨FX.out, FY.out⟩, G.out]; rfl, HK0.out.trans HK3.out⟩
  · have G : Hid (cmpI (WI.val ⟨false, xh, xl⟩) (WI.val ⟨true, yh, yl⟩) = 1) := hid (by
      have h := form_zero FY.out rfl
      unfold cmpI WI.val
      simp only [Bool.false_eq_true, if_false, if_true]
      generalize WI.mag ⟨false, xh, xl⟩ = a
      generalize WI.mag ⟨true, yh, yl⟩ = b at h ⊢
      rw [if_pos (by omega)])
    go_wp2
    go_ret
    exact ⟨by rw [cmpW, if_pos ⟨FX.out, FY.out⟩, G.out]; rfl, HK0.out.trans HK2.out⟩
  · have G : Hid (cmpI (WI.val ⟨true, xh, xl⟩) (WI.val ⟨false, yh, yl⟩) = -1) := hid (by
      have h := form_zero FX.out rfl
      unfold cmpI WI.val
      simp only [Bool.false_eq_true, if_false, if_true]
      generalize WI.mag ⟨true, xh, xl⟩ = a at h ⊢
      generalize WI.mag ⟨false, yh, yl⟩ = b
      rw [if_neg (by omega), if_neg (by omega)])
    go_wp2
    go_ret
    exact ⟨by rw [cmpW, if_pos ⟨FX.out, FY.out⟩, G.out]; rfl, HK0.out.trans HK2.out⟩
  · have G : Hid (cmpI (WI.val ⟨true, xh, xl⟩) (WI.val ⟨true, yh, yl⟩) = cmpN (WI.mag ⟨true, yh, yl⟩) (WI.mag ⟨true, xh, xl⟩)) := hid (by
      unfold cmpI cmpN WI.val
      simp only [if_true]
      generalize WI.mag ⟨true, xh, xl⟩ = a
      generalize WI.mag ⟨true, yh, yl⟩ = b
      by_cases c1 : a < b
      · rw [if_pos (by omega), if_pos c1]
      · rw [if_neg (by omega), if_neg c1]
        by_cases c2 : a = b
        · rw [if_pos (by omega), if_pos (by omega)]
        · rw [if_neg (by omega), if_neg (by omega)])
    go_wp2_with fail
    refine (w_size ⟨true, yh, yl⟩ ⟨true, xh, xl⟩ HY.out HX.out _).mono ?_
    rintro r w3 ⟨rfl, hk3⟩
    have HK3 := hid (HK2.out.trans hk3)
    clear hk3
    go_wp2
    go_ret
    exact ⟨by rw [cmpW, if_pos ⟨FX.out, FY.out⟩, G.out]; rfl, HK0.out.trans HK3.out⟩
end Go.Proofs.YtlhdofkgcbmnnaaGreatDoor
