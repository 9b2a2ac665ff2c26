/- What is proved: small facts on worlds (which blocks a call may turn), for the walks of this claim. -/
import Derived.WalkKit
import Derived.WalkSpells
import Derived.WalkLawsBesides
import Derived.Maps.AppendAt
import Derived.Test.YtkgkcnmnfhehfaaRows
import Derived.Deep.Cut
import Derived.Deep.CutRange
import Derived.Deep.CutBlock
import Derived.Laws.Rows
namespace Go.Proofs.Heap
open Go.RowKit

/-- Outside of S what was there is as it was; no block has gone; the streams are as they were. -/
structure Keep (S : Nat → Prop) (w w' : World) : Prop where
  os : w'.os = w.os
  tape : w'.tape = w.tape
  output : w'.output = w.output
  size : w.heap.size ≤ w'.heap.size
  block : ∀ k, k < w.heap.size → ¬ S k → w'.heap[k]? = w.heap[k]?

theorem Keep.refl (S : Nat → Prop) (w : World) : Keep S w w := ⟨rfl, rfl, rfl, Nat.le_refl _, fun _ _ _ => rfl⟩
theorem Keep.trans {S : Nat → Prop} {a b c : World} (h : Keep S a b) (k : Keep S b c) : Keep S a c :=
  ⟨k.os.trans h.os, k.tape.trans h.tape, k.output.trans h.output, Nat.le_trans h.size k.size, fun i hi hs => (k.block i (Nat.lt_of_lt_of_le hi h.size) hs).trans (h.block i hi hs)⟩
theorem Keep.mono {S T : Nat → Prop} {w w' : World} (h : Keep S w w') (hs : ∀ k, k < w.heap.size → S k → T k) : Keep T w w' :=
  ⟨h.os, h.tape, h.output, h.size, fun k hk ht => h.block k hk (fun s => ht (hs k hk s))⟩
/-- Two steps, of which the second may turn what is new too. -/
theorem Keep.trans' {S T : Nat → Prop} {a b c : World} (h : Keep S a b) (k : Keep T b c) (hT : ∀ i, i < a.heap.size → T i → S i) : Keep S a c :=
  ⟨k.os.trans h.os, k.tape.trans h.tape, k.output.trans h.output, Nat.le_trans h.size k.size,
    fun i hi hs => (k.block i (Nat.lt_of_lt_of_le hi h.size) (fun t => hs (hT i hi t))).trans (h.block i hi hs)⟩
theorem Keep.drew {S : Nat → Prop} {a w : World} (h : Keep S a w) : Keep S a w.drew := ⟨h.os, h.tape, h.output, h.size, h.block⟩
theorem Keep.drewN {S : Nat → Prop} {a w : World} (n : Nat) (h : Keep S a w) : Keep S a (w.drewN n) := ⟨h.os, h.tape, h.output, h.size, h.block⟩
theorem Keep.alloc {S : Nat → Prop} {a w : World} (h : Keep S a w) (o : Obj) : Keep S a (w.alloc o) :=
  ⟨h.os, h.tape, h.output, Nat.le_trans h.size (by simp), fun k hk hs => (Below.heap_alloc w o k (Nat.lt_of_lt_of_le hk h.size)).trans (h.block k hk hs)⟩
theorem Keep.setRow {S : Nat → Prop} {a w : World} (h : Keep S a w) {g : Nat} (hg : S g) (cs : Array Value) : Keep S a (w.setRow g cs) :=
  ⟨h.os, h.tape, h.output, by have := h.size; simpa [World.setRow] using this, fun k hk hs => (setRow_other w g k cs (fun e => hs (e ▸ hg))).trans (h.block k hk hs)⟩
theorem Keep.setRow_new {S : Nat → Prop} {a w : World} (h : Keep S a w) {g : Nat} (hg : a.heap.size ≤ g) (cs : Array Value) : Keep S a (w.setRow g cs) :=
  ⟨h.os, h.tape, h.output, by have := h.size; simpa [World.setRow] using this, fun k hk hs => (setRow_other w g k cs (by omega)).trans (h.block k hk hs)⟩
theorem Keep.setCell {S : Nat → Prop} {a w : World} (h : Keep S a w) {p : Addr} (hg : S p.block) (u : Value) : Keep S a (w.setCell p u) :=
  ⟨h.os, h.tape, h.output, by have := h.size; simpa [World.setCell] using this, fun k hk hs => (Below.heap_setCell w p u k (fun e => hs (e ▸ hg))).trans (h.block k hk hs)⟩
theorem Keep.setCell_new {S : Nat → Prop} {a w : World} (h : Keep S a w) {p : Addr} (hg : a.heap.size ≤ p.block) (u : Value) : Keep S a (w.setCell p u) :=
  ⟨h.os, h.tape, h.output, by have := h.size; simpa [World.setCell] using this, fun k hk hs => (Below.heap_setCell w p u k (by omega)).trans (h.block k hk hs)⟩
theorem Keep.grown {S : Nat → Prop} {a w w' : World} {row : Option Nat} (h : Keep S a w) (hg : w.grownBy w' row) (hr : ∀ k, row = some k → a.heap.size ≤ k ∨ S k) : Keep S a w' :=
  ⟨hg.os.trans h.os, hg.tape.trans h.tape, hg.output.trans h.output, Nat.le_trans h.size hg.size, fun k hk hs =>
    (hg.block k (Nat.lt_of_lt_of_le hk h.size) (fun e => by rcases hr k e.symm with h1 | h1 <;> first | omega | exact hs h1)).trans (h.block k hk hs)⟩
theorem Keep.below {w w' : World} (h : Keep (fun _ => False) w w') : Below w.heap.size w w' := ⟨h.os, h.tape, h.output, h.size, fun k hk => h.block k hk id⟩
theorem Keep.of_below {S : Nat → Prop} {w w' : World} (h : Below w.heap.size w w') : Keep S w w' := ⟨h.os, h.tape, h.output, h.size, fun k hk _ => h.block k hk⟩
theorem Keep.get {S : Nat → Prop} {w w' : World} (h : Keep S w w') {k : Nat} {o : Obj} (hk : w.heap[k]? = some o) (hs : ¬ S k) : w'.heap[k]? = some o :=
  (h.block k (Array.getElem?_eq_some_iff.1 hk).1 hs).trans hk

/-- A fact behind a name, kept from the walk. -/
theorem hid {p : Prop} (h : p) : Hid p := h

theorem lt_of_heap {w : World} {k : Nat} {o : Obj} (h : w.heap[k]? = some o) : k < w.heap.size := (Array.getElem?_eq_some_iff.1 h).1

/-- A cell of a block that is known whole. -/
theorem cell_of {w : World} {g : Nat} {cur : Array Value} {t : TypeId} {fr : Nat × Nat} (h : w.heap[g]? = some (.cells cur t fr)) {i : Nat} {v : Value} (hv : cur[i]? = some v) : w.cell? ⟨g, i, none⟩ = some v := by
  simp [World.cell?, h, hv]
theorem free_of {w : World} {g : Nat} {cur : Array Value} {t : TypeId} (h : w.heap[g]? = some (.cells cur t (0, 0))) (i : Nat) : w.frozen? ⟨g, i, none⟩ = false := by
  simp [World.frozen?, h]

/-- An owned row's block, known whole. -/
theorem owns_block {w : World} {base : Nat} {e : TypeId} {size : Nat} {v : Value} {n : Nat} {xs : List Value} (h : w.ownsRow base e size v n xs) :
    (v = .slice none 0 0 ∧ n = 0 ∧ xs = []) ∨ ∃ g cap cur, v = .slice (some ⟨g, 0, none⟩) n cap ∧ base ≤ g ∧ w.heap[g]? = some (.cells cur e (0, 0)) ∧ n ≤ cap ∧ cap ≤ maxLen ∧ cur.size = cap * size ∧ cur.toList.take (n * size) = xs := by
  obtain ⟨h1, h2 | h2⟩ := h
  · obtain ⟨rfl, rfl⟩ := h2
    exact .inl ⟨rfl, rfl, List.eq_nil_of_length_eq_zero (by simpa using h1)⟩
  · exact .inr h2

theorem owns_low {w : World} {base : Nat} {e : TypeId} {size : Nat} {v : Value} {n : Nat} {xs : List Value} (h : w.ownsRow base e size v n xs) : w.ownsRow 0 e size v n xs := by
  obtain ⟨h1, h2⟩ := h
  refine ⟨h1, ?_⟩
  rcases h2 with h2 | ⟨g, c, cur, e1, _, r⟩
  · exact .inl h2
  · exact .inr ⟨g, c, cur, e1, Nat.zero_le _, r⟩

theorem owns_some {w : World} {base : Nat} {e : TypeId} {size n c : Nat} {p : Option Addr} {xs : List Value} (h : w.ownsRow base e size (.slice p n c) n xs) (hn : 0 < n) : ∃ g, p = some ⟨g, 0, none⟩ := by
  rcases owns_block h with ⟨_, e2, _⟩ | ⟨g, cap, cur, e1, _⟩
  · omega
  · injection e1 with e1; exact ⟨g, e1⟩

/-- An element of an owned row of one-cell elements. -/
theorem owns_cell {w : World} {base : Nat} {e : TypeId} {g c n k : Nat} {xs : List Value} (h : w.ownsRow base e 1 (.slice (some ⟨g, 0, none⟩) n c) n xs) (hk : k < n) : w.cell? ⟨g, k, none⟩ = xs[k]? := by
  have hl := h.1
  have hk' : k < xs.length := by omega
  have := h.cells (g := g) rfl k xs[k] (List.getElem?_eq_getElem hk')
  have hadd : (⟨g, 0, none⟩ : Addr).add k = ⟨g, k, none⟩ := by unfold Addr.add; split <;> simp_all
  rw [hadd] at this
  rw [this, List.getElem?_eq_getElem hk']

theorem owns_free {w : World} {base : Nat} {e : TypeId} {size g c n : Nat} {xs : List Value} (h : w.ownsRow base e size (.slice (some ⟨g, 0, none⟩) n c) n xs) (k : Nat) : w.frozen? ⟨g, k, none⟩ = false := by
  rcases owns_block h with ⟨e1, _⟩ | ⟨g', c', cur, e1, _, hg, _⟩
  · cases e1
  · injection e1 with e1; injection e1 with e1; injection e1 with e1; subst e1
    exact free_of hg k

theorem owns_val {w : World} {base : Nat} {e : TypeId} {size : Nat} {v : Value} {n : Nat} {xs : List Value} (h : w.ownsRow base e size v n xs) : ∃ p c, v = .slice p n c := by
  rcases owns_block h with ⟨rfl, rfl, _⟩ | ⟨g, cap, cur, rfl, _⟩
  · exact ⟨none, 0, rfl⟩
  · exact ⟨_, _, rfl⟩

/-- An owned row in a world that keeps its block. -/
theorem owns_keep {w w' : World} {base : Nat} {e : TypeId} {size : Nat} {v : Value} {n : Nat} {xs : List Value} (h : w.ownsRow base e size v n xs)
    (hk : ∀ g, v.ownBlock = some g → w'.heap[g]? = w.heap[g]?) : w'.ownsRow base e size v n xs := by
  refine ⟨h.1, ?_⟩
  rcases h.2 with h2 | ⟨g, cap, cur, rfl, hb, hg, r⟩
  · exact .inl h2
  · exact .inr ⟨g, cap, cur, rfl, hb, by rw [hk g rfl]; exact hg, r⟩

/-- A store into a block that is known whole. -/
theorem hsc_same {w : World} {g : Nat} {cur : Array Value} {t : TypeId} {fr : Nat × Nat} (h : w.heap[g]? = some (.cells cur t fr)) (i : Nat) (u : Value) :
    (w.setCell ⟨g, i, none⟩ u).heap[g]? = some (.cells (cur.setIfInBounds i u) t fr) := by
  simp [World.setCell, Array.getElem?_modify, h]
theorem hsc_ne {w : World} {g k i : Nat} (u : Value) (h : k ≠ g) : (w.setCell ⟨g, i, none⟩ u).heap[k]? = w.heap[k]? := Below.heap_setCell w ⟨g, i, none⟩ u k h

def byteV (b : UInt8) : Value := .int .u8 b.toNat

theorem byteV_one (l : List UInt8) : ∀ v ∈ l.map byteV, v.oneCell' = true := by
  intro v hv
  obtain ⟨b, _, rfl⟩ := List.mem_map.1 hv
  rfl

/-- 'copy(dst, src)' out of a string into a row that is known whole. -/
theorem run_copy_string {P : Program} (w : World) (dT sT ty elem : TypeId) (g o dLen dCap : Nat) (s : ByteArray) (cur : Array Value) (t : TypeId)
    (hu : P.underlying dT = some (.slice elem)) (hs : (P.info? elem).map (·.size) = some 1)
    (hg : w.heap[g]? = some (.cells cur t (0, 0))) (hn : s.size ≤ dLen) (hfit : o + s.size ≤ cur.size) :
    (Builtin.copy_ #[dT, sT] ty #[.slice (some ⟨g, o, none⟩) dLen dCap, .string s]).run P w =
      .ok (goInt s.size) (w.setRow g (cur.toList.take o ++ s.data.toList.map byteV ++ cur.toList.drop (o + s.size)).toArray) := by
  have hst := run_storeCells_at P g o t (s.data.toList.map byteV) 0 cur w hg (by simpa using hfit) (byteV_one _)
  have hm : (s.data.map fun b => Value.int .u8 b.toNat) = (s.data.toList.map byteV).toArray := by
    apply Array.ext'; simp [byteV]
  cases hq : P.info? elem with
  | none => simp [hq] at hs
  | some i =>
    have hi : i.size = 1 := by simpa [hq] using hs
    have ht : List.take s.size (s.data.toList.map byteV) = s.data.toList.map byteV := List.take_of_length_le (by simp)
    simp only [List.length_map, Array.length_toList, Nat.add_zero] at hst
    simp [Builtin.copy_, run_underlying hu, Builtin.lenOf, Builtin.firstCells, sizeOf, typeInfo, hq, Nat.min_eq_left hn, hm, ht, hst]
/-- 'string(b)': the bytes of a piece of a block. -/
theorem run_bytes_string {P : Program} (w : World) (src dst e : TypeId) (hs : P.underlying src = some (.slice e)) (he : P.underlying e = some (.int .u8)) (hd : P.underlying dst = some .string)
    (b off len cap : Nat) (l : List UInt8) (hl : l.length = len) (hcell : ∀ i x, l[i]? = some x → w.cell? ⟨b, off + i, none⟩ = some (byteV x)) :
    (convert src dst (.slice (some ⟨b, off, none⟩) len cap)).run P w = .ok (.string ⟨l.toArray⟩) w := by
  have h := run_convert_bytes_arg (P := P) w src e hs he b off len cap (l.map fun b => (b.toNat : Int)) (by simpa using hl) (fun i hi => by
    have hlt : i < l.length := by omega
    rw [hcell i l[i] (List.getElem?_eq_getElem hlt)]
    simp [List.getD, hlt, byteV]) dst hd
  rw [h]
  have : strOfNums (l.map fun b => (b.toNat : Int)) = ⟨l.toArray⟩ := by
    have h2 : ∀ (a b : ByteArray), a.data.toList = b.data.toList → a = b := fun a b h => by
      cases a; cases b; simp at h; subst h; rfl
    refine h2 _ _ ?_
    rw [strOfNums_data, List.map_map]
    have : ((fun n : Int => UInt8.ofNat n.toNat) ∘ fun b : UInt8 => (b.toNat : Int)) = id := by funext x; simp
    rw [this]; simp
  rw [this]
/-- The slice value v reads as these cells, m elements of them (nil has none). -/
def Rd (w : World) (size : Nat) (v : Value) (m : Nat) (cells : List Value) : Prop :=
  cells.length = m * size ∧ (∀ u ∈ cells, u.oneCell' = true) ∧ ((v = .slice none 0 0 ∧ m = 0) ∨ ∃ ad c, v = .slice (some ad) m c ∧ ∀ j u, cells[j]? = some u → w.cell? (ad.add j) = some u)

theorem Rd.keep {w w' : World} {size : Nat} {v : Value} {m : Nat} {cells : List Value} (h : Rd w size v m cells) (hk : ∀ p u, w.cell? p = some u → w'.cell? p = some u) : Rd w' size v m cells := by
  refine ⟨h.1, h.2.1, ?_⟩
  rcases h.2.2 with h | ⟨ad, c, hv, hc⟩
  · exact .inl h
  · exact .inr ⟨ad, c, hv, fun j u hj => hk _ _ (hc j u hj)⟩

theorem rd_nil (w : World) (size : Nat) : Rd w size (.slice none 0 0) 0 [] := ⟨by simp, by simp, .inl ⟨rfl, rfl⟩⟩

theorem rd_own {w : World} {base : Nat} {e : TypeId} {size : Nat} {v : Value} {n : Nat} {xs : List Value} (h : w.ownsRow base e size v n xs) (h1 : ∀ u ∈ xs, u.oneCell' = true) : Rd w size v n xs := by
  refine ⟨h.1, h1, ?_⟩
  rcases owns_block h with ⟨rfl, rfl, _⟩ | ⟨g, cap, cur, rfl, _, _, _⟩
  · exact .inl ⟨rfl, rfl⟩
  · exact .inr ⟨_, _, rfl, h.cells rfl⟩

/-- A block of one element's cells, just laid. -/
theorem rd_block {w : World} {g : Nat} {cs : List Value} {t : TypeId} {size m c : Nat} {fr : Nat × Nat} (hg : w.heap[g]? = some (.cells cs.toArray t fr)) (hl : cs.length = m * size) (h1 : ∀ u ∈ cs, u.oneCell' = true) :
    Rd w size (.slice (some ⟨g, 0, none⟩) m c) m cs := by
  refine ⟨hl, h1, .inr ⟨_, _, rfl, fun j u hj => ?_⟩⟩
  have hadd : (⟨g, 0, none⟩ : Addr).add j = ⟨g, j, none⟩ := by unfold Addr.add; split <;> simp_all
  rw [hadd]
  exact cell_of hg (by simpa using hj)

/-- append, whatever is appended. -/
theorem wpList_append_rd {P : Program} {w : World} {ops : Array Oper} {rest : List Oper} {o : Oper} {a : Act} {Q : Exit → Act → World → Prop} (hgd : o.guard = none) (s x : Operand) (t : TypeId)
    (ho : o.op = .call { callee := .builtin .append, args := #[s, x], argTypes := #[t, t] })
    (base : Nat) (e : TypeId) (i : TypeInfo) (z : Value) (size bytes : Nat) (ht : P.underlying t = some (.slice e)) (hi : P.info? e = some i) (hz : i.zero = some z)
    (hsize : i.size = size) (hby : i.bytes = bytes) (hzs : z.cells.size = size) (hsz : 0 < size)
    (v : Value) (n : Nat) (xs : List Value) (hs : a.eval s = v) (hown : w.ownsRow base e size v n xs)
    (u : Value) (m : Nat) (news : List Value) (hx : a.eval x = u) (hrd : Rd w size u m news)
    (h63 : n + m ≤ maxLen) (hbytes : (n + m) * bytes ≤ 140737488355328) (hbase : base ≤ w.heap.size)
    (h : ∀ v' w', w'.ownsRow base e size v' (n + m) (xs ++ news) → w.grownBy w' v.ownBlock → (v'.ownBlock = v.ownBlock ∨ v'.ownBlock = some w.heap.size) → (v' = .slice none 0 0 ↔ v = .slice none 0 0 ∧ m = 0) → wpList P ops Q rest (a.put o.dst v') w') :
    wpList P ops Q (o :: rest) a w := by
  rcases hrd.2.2 with ⟨rfl, rfl⟩ | ⟨ad, c, rfl, hc⟩
  · have hn : news = [] := List.eq_nil_of_length_eq_zero (by simpa using hrd.1)
    subst hn
    refine wpList_plain hgd fun K hK => ?_
    have hrun : (Builtin.append_ #[t, t] o.type #[v, .slice none 0 0]).run P w = .ok v w := by
      rcases owns_block hown with ⟨rfl, rfl, _⟩ | ⟨g, cap, cur, rfl, _, _, hn, _⟩
      · simp [Builtin.append_, run_underlying ht, sizeOf, typeInfo, hi, Builtin.lenOf, Builtin.firstCells]
      · simp [Builtin.append_, run_underlying ht, sizeOf, typeInfo, hi, Builtin.lenOf, Builtin.firstCells, hn, storeCells]
    unfold Oper.wp execOp
    simp only [ho, resolve, invoke, builtin, Sem.run_bind, Sem.run_pure, Result.andThen_ok, List.map_toArray, List.map_cons, List.map_nil, hs, hx, hrun]
    exact hK _ _ (h v w (by simpa using hown) ⟨rfl, rfl, rfl, Nat.le_refl _, fun _ _ _ => rfl⟩ (.inl rfl) (by simp))
  · exact wpList_append_own_at w hgd s x t ho base e i z size bytes ht hi hz hsize hby hzs hsz v n xs hs hown ad m c news hx hrd.1 hc hrd.2.1 h63 hbytes hbase (fun v' w' h1 h2 h3 h4 => h v' w' h1 h2 h4 h3)
end Go.Proofs.Heap

namespace Go.Proofs.Sch
open Go.RowKit Go.Proofs.Heap

/-- A field. -/
structure Fld where
  name : ByteArray
  kind : Int
  count : Int
/-- A component. -/
structure Cmp where
  id : Int
  name : ByteArray
  fs : List Fld

/-- A row of things, each of z cells, in a block below a bound. -/
def RowP {α : Type} (z : Nat) (at_ : World → Nat → Nat → α → Prop) (w : World) (B : Nat) (p : Option Addr) (l : List α) : Prop :=
  l = [] ∨ ∃ b off, p = some ⟨b, off, none⟩ ∧ b < B ∧ ∀ i x, l[i]? = some x → at_ w b (off + i * z) x

def FldAt (w : World) (b o : Nat) (f : Fld) : Prop := w.cell? ⟨b, o, none⟩ = some (.string f.name) ∧ w.cell? ⟨b, o + 1, none⟩ = some (.int .i64 f.kind) ∧ w.cell? ⟨b, o + 2, none⟩ = some (.int .i64 f.count)
abbrev FP := RowP 3 FldAt
def CmpAt (B : Nat) (w : World) (b o : Nat) (c : Cmp) : Prop := w.cell? ⟨b, o, none⟩ = some (.int .i64 c.id) ∧ w.cell? ⟨b, o + 1, none⟩ = some (.string c.name) ∧
  ∃ p k, w.cell? ⟨b, o + 2, none⟩ = some (.slice p c.fs.length k) ∧ c.fs.length ≤ k ∧ FP w B p c.fs
def CP (w : World) (B : Nat) (p : Option Addr) (l : List Cmp) : Prop := RowP 3 (CmpAt B) w B p l

section
variable {w w' : World} {B B' : Nat} {p : Option Addr}

theorem RowP.imp {α : Type} {z : Nat} {at1 at2 : World → Nat → Nat → α → Prop} {l : List α} (h : RowP z at1 w B p l) (hB : B ≤ B') (ha : ∀ b o x, b < B → at1 w b o x → at2 w' b o x) : RowP z at2 w' B' p l := by
  rcases h with h | ⟨b, off, hp, hb, hc⟩
  · exact .inl h
  · exact .inr ⟨b, off, hp, by omega, fun i x hi => ha b _ x hb (hc i x hi)⟩

/-- Blocks below a bound are unchanged. -/
def Low (B : Nat) (w w' : World) : Prop := ∀ b, b < B → w'.heap[b]? = w.heap[b]?
theorem Low.refl : Low B w w := fun _ _ => rfl
theorem Low.trans {w2 : World} (h : Low B w w') (h2 : Low B w' w2) : Low B w w2 := fun b hb => (h2 b hb).trans (h b hb)
theorem Low.of_keep {S : Nat → Prop} (hk : Keep S w w') (hB : B ≤ w.heap.size) (hS : ∀ k, S k → B ≤ k) : Low B w w' := fun b hb => hk.block b (by omega) (fun h => by have := hS b h; omega)
theorem Low.keep0 (hk : Keep (fun _ => False) w w') : Low w.heap.size w w' := Low.of_keep hk (Nat.le_refl _) (fun _ h => h.elim)
theorem Low.cell (h : Low B w w') {b o : Nat} (hb : b < B) : w'.cell? ⟨b, o, none⟩ = w.cell? ⟨b, o, none⟩ := World.cell?_of_block (a := ⟨b, o, none⟩) (h b hb)

theorem FP.low {l : List Fld} (h : FP w B p l) (hl : Low B w w') : FP w' B p l :=
  RowP.imp h (Nat.le_refl _) fun b o x hb hx => ⟨by rw [hl.cell hb]; exact hx.1, by rw [hl.cell hb]; exact hx.2.1, by rw [hl.cell hb]; exact hx.2.2⟩
theorem FP.mono {l : List Fld} (h : FP w B p l) (hB : B ≤ B') : FP w B' p l := RowP.imp h hB fun _ _ _ _ hx => hx
theorem CP.low {l : List Cmp} (h : CP w B p l) (hl : Low B w w') : CP w' B p l :=
  RowP.imp h (Nat.le_refl _) fun b o x hb hx => by
    obtain ⟨h1, h2, q, k, h3, h4, h5⟩ := hx
    exact ⟨by rw [hl.cell hb]; exact h1, by rw [hl.cell hb]; exact h2, q, k, by rw [hl.cell hb]; exact h3, h4, FP.low h5 hl⟩
theorem CP.mono {l : List Cmp} (h : CP w B p l) (hB : B ≤ B') : CP w B' p l :=
  RowP.imp h hB fun b o x hb hx => by
    obtain ⟨h1, h2, q, k, h3, h4, h5⟩ := hx
    exact ⟨h1, h2, q, k, h3, h4, FP.mono h5 hB⟩

/-- A field of a row. -/
theorem FP.at {l : List Fld} (h : FP w B p l) {i : Nat} {f : Fld} (hi : l[i]? = some f) : ∃ b off, p = some ⟨b, off, none⟩ ∧ b < B ∧ w.cell? ⟨b, off + i * 3, none⟩ = some (.string f.name) ∧ w.cell? ⟨b, off + i * 3 + 1, none⟩ = some (.int .i64 f.kind) ∧ w.cell? ⟨b, off + i * 3 + 2, none⟩ = some (.int .i64 f.count) := by
  rcases h with rfl | ⟨b, off, hp, hb, hc⟩
  · simp at hi
  · obtain ⟨h1, h2, h3⟩ := hc i f hi
    exact ⟨b, off, hp, hb, h1, h2, h3⟩
theorem CP.at {l : List Cmp} (h : CP w B p l) {i : Nat} {c : Cmp} (hi : l[i]? = some c) : ∃ b off q k, p = some ⟨b, off, none⟩ ∧ b < B ∧ w.cell? ⟨b, off + i * 3, none⟩ = some (.int .i64 c.id) ∧ w.cell? ⟨b, off + i * 3 + 1, none⟩ = some (.string c.name) ∧
    w.cell? ⟨b, off + i * 3 + 2, none⟩ = some (.slice q c.fs.length k) ∧ c.fs.length ≤ k ∧ FP w B q c.fs := by
  rcases h with rfl | ⟨b, off, hp, hb, hc⟩
  · simp at hi
  · obtain ⟨h1, h2, q, k, h3, h4, h5⟩ := hc i c hi
    exact ⟨b, off, q, k, hp, hb, h1, h2, h3, h4, h5⟩
end
end Go.Proofs.Sch

namespace Go.Proofs.Ytkgkcnmnfhehfaa
open Go.RowKit Go.Proofs.Heap

def letN (x : Int) : Bool := decide (97 ≤ x) && decide (x ≤ 122)
def digN (x : Int) : Bool := decide (48 ≤ x) && decide (x ≤ 57)
def byteN (s : ByteArray) (i : Nat) : Int := ((s.get! i).toNat : Int)
/-- Whether a text is a name. -/
def nameB (s : ByteArray) : Bool := decide (1 ≤ s.size ∧ s.size ≤ 12 ∧ letN (byteN s 0) = true ∧ ∀ i, i < s.size → (letN (byteN s i) || digN (byteN s i)) = true)

theorem tl_eq (s : ByteArray) : s.toList = s.data.toList := ByteArray.toList_eq s
theorem empty_no {s : ByteArray} (h : s.size ≠ 0) : s.toList.isEmpty = false := by
  rw [tl_eq]
  cases e : s.data.toList with
  | nil => have e2 := congrArg List.length e; rw [Array.length_toList] at e2; exact absurd e2 h
  | cons _ _ => rfl
theorem empty_yes {s : ByteArray} (h : s.size = 0) : s.toList.isEmpty = true := by
  rw [tl_eq]
  cases e : s.data.toList with
  | nil => rfl
  | cons a l => have e2 := congrArg List.length e; rw [Array.length_toList] at e2; exact absurd (h.symm.trans e2) (by simp)
theorem seq_dec (a b : ByteArray) : (a.toList == b.toList) = decide (a = b) := by
  rw [tl_eq, tl_eq]
  by_cases h : a = b
  · subst h; simp
  · have : ¬ a.data.toList = b.data.toList := fun e => h (by cases a; cases b; simp at e; simp [e])
    rw [decide_eq_false h]
    simpa using this
theorem byte_at (s : ByteArray) (i : Nat) (h : i < s.size) : ((s[i]'h).toNat : Int) = byteN s i := by
  unfold byteN
  cases s with
  | mk d => rw [show (ByteArray.mk d).get! i = d[i]'h from getElem!_pos d i h]; rfl
theorem nameB_short {s : ByteArray} (h : s.size = 0 ∨ 12 < s.size) : nameB s = false := decide_eq_false (fun hh => by omega)
theorem nameB_first {s : ByteArray} (h : letN (byteN s 0) = false) : nameB s = false := decide_eq_false (fun hh => by rw [h] at hh; exact Bool.noConfusion hh.2.2.1)
theorem nameB_bad {s : ByteArray} {i : Nat} (hi : i < s.size) (h : (letN (byteN s i) || digN (byteN s i)) = false) : nameB s = false := decide_eq_false (fun hh => by have := hh.2.2.2 i hi; rw [h] at this; cases this)
theorem nameB_good {s : ByteArray} (h1 : 1 ≤ s.size) (h2 : s.size ≤ 12) (h3 : letN (byteN s 0) = true) (h4 : ∀ i, i < s.size → (letN (byteN s i) || digN (byteN s i)) = true) : nameB s = true := decide_eq_true ⟨h1, h2, h3, h4⟩

end Go.Proofs.Ytkgkcnmnfhehfaa

namespace Go.Proofs.Heap
open Go.RowKit

theorem results_c {fn : Func} {p : Tmp} {ty : TypeId} (h : fn.results = #[.cell p ty]) (tmps : Array Value) {P : Program} {w : World} {ad : Addr} {v : Value}
    (hp : tmps.getD p undef = .pointer (some ad)) (hl : (loadVar ty ad).run P w = .ok v w) : (results fn tmps).run P w = .ok v w := by
  have hp' : tmps[p]?.getD undef = .pointer (some ad) := by simpa using hp
  simp [results, h, hp', asAddr, hl]
theorem results_ct {fn : Func} {p u : Tmp} {ty : TypeId} (h : fn.results = #[.cell p ty, .tmp u]) (tmps : Array Value) {P : Program} {w : World} {ad : Addr} {v : Value}
    (hp : tmps.getD p undef = .pointer (some ad)) (hl : (loadVar ty ad).run P w = .ok v w) : (results fn tmps).run P w = .ok (.tuple #[v, tmps.getD u undef]) w := by
  have hp' : tmps[p]?.getD undef = .pointer (some ad) := by simpa using hp
  simp [results, h, hp', asAddr, hl]
theorem cells2 {w : World} {b : Nat} {t : TypeId} {v0 v1 : Value} (x0 x1 : Value) (h : w.heap[b]? = some (.cells #[v0, v1] t (0, 0))) :
    ((w.setCell ⟨b, 0, none⟩ x0).setCell ⟨b, 1, none⟩ x1).heap[b]? = some (.cells #[x0, x1] t (0, 0)) := by
  rw [hsc_same (hsc_same h 0 x0) 1 x1]; rfl
theorem cells3 {w : World} {b : Nat} {t : TypeId} {v0 v1 v2 : Value} (x0 x1 x2 : Value) (h : w.heap[b]? = some (.cells #[v0, v1, v2] t (0, 0))) :
    (((w.setCell ⟨b, 0, none⟩ x0).setCell ⟨b, 1, none⟩ x1).setCell ⟨b, 2, none⟩ x2).heap[b]? = some (.cells #[x0, x1, x2] t (0, 0)) := by
  rw [hsc_same (hsc_same (hsc_same h 0 x0) 1 x1) 2 x2]; rfl
theorem owns_mono {w : World} {base b' : Nat} {e : TypeId} {size : Nat} {v : Value} {n : Nat} {xs : List Value} (h : w.ownsRow base e size v n xs) (hb : b' ≤ base) : w.ownsRow b' e size v n xs := by
  obtain ⟨h1, h2⟩ := h
  refine ⟨h1, ?_⟩
  rcases h2 with h2 | ⟨g, cap, cur, h3, h4, h5⟩
  · exact .inl h2
  · exact .inr ⟨g, cap, cur, h3, by omega, h5⟩
/-- A walk that turned only what was new. -/
theorem keep_new {w0 w w' : World} {S : Nat → Prop} (h0 : Keep (fun _ => False) w0 w) (hk : Keep S w w') (hS : ∀ k, S k → w0.heap.size ≤ k) : Keep (fun _ => False) w0 w' :=
  h0.trans' hk (fun i hi h => absurd (hS i h) (by omega))
end Go.Proofs.Heap

namespace Go.Proofs.Ytkgkcnmnfhehfaa
open Go.RowKit Go.Proofs.Heap

def kindB (k : Int) : Bool := decide (1 ≤ k ∧ k ≤ 10)
/-- How many bytes an element of a kind has; nought: there is no such kind. -/
def sizeK (k : Int) : Int := if k = 1 ∨ k = 2 ∨ k = 6 then 1 else if k = 3 ∨ k = 7 then 2 else if k = 4 ∨ k = 8 then 4 else if k = 5 ∨ k = 9 ∨ k = 10 then 8 else 0
def signK (k : Int) : Bool := decide (2 ≤ k ∧ k ≤ 5)

theorem is_kind (k : Int) (w : World) : Calls Try.prog 40 #[.int .i64 k] w fun r w' => r = .returned (.bool (kindB k)) ∧ w = w' := by
  go_enter Try.func40, Try.ntmps40
  unfold kindB
  by_cases h1 : (1 : Int) ≤ k
  · have e1 : decide ((1 : Int) ≤ k) = true := decide_eq_true h1
    go_wp2
    go_ret
    exact ⟨by simp [h1], rfl⟩
  · have e1 : decide ((1 : Int) ≤ k) = false := decide_eq_false h1
    go_wp2
    go_ret
    exact ⟨by simp, rfl⟩

theorem shapes_row (w : World) : Calls Try.prog 62 #[] w fun r w' => r = .returned (.slice (some ⟨w.heap.size, 0, none⟩) 11 11) ∧ Keep (fun _ => False) w w' ∧ ∀ k : Nat, 1 ≤ k → k ≤ 10 →
    ∃ s, w'.cell? ⟨w.heap.size, k * 3, none⟩ = some (.string s) ∧ w'.cell? ⟨w.heap.size, k * 3 + 1, none⟩ = some (.int .i64 (sizeK k)) ∧ w'.cell? ⟨w.heap.size, k * 3 + 2, none⟩ = some (.bool (signK k)) := by
  go_enter Try.func62, Try.ntmps62
  go_wp2
  go_ret
  refine ⟨rfl, (Keep.refl _ w).alloc _, fun k h1 h2 => ?_⟩
  have hk : k = 1 ∨ k = 2 ∨ k = 3 ∨ k = 4 ∨ k = 5 ∨ k = 6 ∨ k = 7 ∨ k = 8 ∨ k = 9 ∨ k = 10 := by omega
  rcases hk with rfl | rfl | rfl | rfl | rfl | rfl | rfl | rfl | rfl | rfl
  all_goals exact ⟨_, cell_of (heap_alloc_new w _) (by rfl), cell_of (heap_alloc_new w _) (by rfl), cell_of (heap_alloc_new w _) (by rfl)⟩

theorem kind_of (k : Int) (w : World) : Calls Try.prog 39 #[.int .i64 k] w fun r w' => ∃ s, r = .returned (.agg #[.string s, .int .i64 (sizeK k), .bool (signK k)]) ∧ Keep (fun _ => False) w w' := by
  go_enter Try.func39, Try.ntmps39
  go_wp2_with fail
  have hb := heap_alloc_new w (.cells #[.string ⟨#[]⟩, .int .i64 0, .bool false] 87)
  have hk0 := (Keep.refl (fun _ => False) w).alloc (.cells #[.string ⟨#[]⟩, .int .i64 0, .bool false] 87)
  generalize w.alloc (.cells #[.string ⟨#[]⟩, .int .i64 0, .bool false] 87) = w0 at *
  have HB := hid hb; have HK0 := hid hk0
  generalize hgb : w.heap.size = b at *
  clear hb hk0
  refine (is_kind k _).mono ?_
  rintro r w' ⟨rfl, rfl⟩
  by_cases h : 1 ≤ k ∧ k ≤ 10
  · have e : kindB k = true := decide_eq_true h
    obtain ⟨n, rfl⟩ := Int.eq_ofNat_of_zero_le (a := k) (by omega)
    rw [e]
    clear e
    go_wp2_with fail
    refine (shapes_row _).mono ?_
    rintro r w1 ⟨rfl, hk1, hc⟩
    obtain ⟨s, c0, c1, c2⟩ := hc n (by omega) (by omega)
    have hin : (0 : Int) ≤ (n : Int) ∧ (n : Int) < 11 := ⟨by omega, by omega⟩
    have hb1 := hk1.get HB.out id
    have HK1 := hid (HK0.out.trans hk1); have HB1 := hid hb1
    clear hc hk1 h hb1 HB HK0
    generalize hz : sizeK (n : Int) = z at *
    generalize hg : signK (n : Int) = g at *
    have HZ := hid hz; have HG := hid hg
    clear hz hg
    generalize w0.heap.size = q at *
    have d0 := cell_of HB1.out (i := 0) (by rfl)
    have d1 := cell_of HB1.out (i := 1) (by rfl)
    have d2 := cell_of HB1.out (i := 2) (by rfl)
    have f0 := free_of HB1.out 0
    have f1 := free_of HB1.out 1
    have f2 := free_of HB1.out 2
    go_wp2
    (try simp only [Exit.inBlock, Exit.then])
    refine bodyPost_ret (results_c rfl _ rfl (run_loadVar_row _ b _ 87 _ _ _ (cells3 (.string s) (.int .i64 z) (.bool g) HB1.out) Try.underlying87 rfl (by kernel_rfl))) rfl ?_
    exact ⟨s, by rw [HZ.out, HG.out], ((HK1.out.setCell_new (by simp [hgb]) _).setCell_new (by simp [hgb]) _).setCell_new (by simp [hgb]) _⟩
  · have e : kindB k = false := decide_eq_false h
    have e1 : sizeK k = 0 := by unfold sizeK; rw [if_neg (by omega), if_neg (by omega), if_neg (by omega), if_neg (by omega)]
    have e2 : signK k = false := decide_eq_false (by omega)
    rw [e]
    have E1 := hid e1; have E2 := hid e2
    clear e e1 e2 h
    have d0 := cell_of HB.out (i := 0) (by rfl)
    have d1 := cell_of HB.out (i := 1) (by rfl)
    have d2 := cell_of HB.out (i := 2) (by rfl)
    have f0 := free_of HB.out 0
    have f1 := free_of HB.out 1
    have f2 := free_of HB.out 2
    go_wp2
    (try simp only [Exit.inBlock, Exit.then])
    refine bodyPost_ret (results_c rfl _ rfl (run_loadVar_row _ b _ 87 _ _ _ (cells3 (.string ⟨#[]⟩) (.int .i64 0) (.bool false) HB.out) Try.underlying87 rfl (by kernel_rfl))) rfl ?_
    exact ⟨⟨#[]⟩, by rw [E1.out, E2.out], ((HK0.out.setCell_new (by simp [hgb]) _).setCell_new (by simp [hgb]) _).setCell_new (by simp [hgb]) _⟩
theorem field_size (s : ByteArray) (z : Int) (g : Bool) (w : World) : (Instr.field 87 (.agg #[.string s, .int .i64 z, .bool g]) 1).run Try.prog w = .ok (.int .i64 z) w := by kernel_rfl

set_option maxRecDepth 10000 in
theorem size_of (k : Int) (w : World) : Calls Try.prog 20 #[.int .i64 k] w fun r w' => r = .returned (.int .i64 (sizeK k)) ∧ Keep (fun _ => False) w w' := by
  go_enter Try.func20, Try.ntmps20
  go_wp2_with fail
  refine (kind_of k _).mono ?_
  rintro r w1 ⟨s, rfl, hk⟩
  have hfd := field_size s (sizeK k) (signK k) w1
  have HK := hid hk
  clear hk
  go_wp2
  go_ret
  exact ⟨rfl, HK.out⟩
end Go.Proofs.Ytkgkcnmnfhehfaa

namespace Go.Proofs.Ytkgkcnmnfhehfaa
open Go.RowKit Go.Proofs.Heap Go.Proofs.Sch

abbrev iV (n : Nat) : Value := .int .i64 (n : Int)
def upN (a s : Nat) : Nat := (a + s - 1) / s * s

theorem up_le (a s : Nat) (_ : 1 ≤ s) : upN a s ≤ a + s - 1 := Nat.div_mul_le_self _ _
theorem up_cast (a s : Nat) (hs : 1 ≤ s) : ((a : Int) + (s : Int) - 1) / (s : Int) * (s : Int) = ((upN a s : Nat) : Int) := by
  have h : ((a : Int) + (s : Int) - 1) = ((a + s - 1 : Nat) : Int) := by omega
  rw [h, ← Int.natCast_ediv, ← Int.natCast_mul]
  rfl

theorem up_at (a s : Nat) (w : World) (hs : 1 ≤ s) (hs2 : s ≤ 4096) (ha : a ≤ 1000000) : Calls Try.prog 50 #[.int .i64 (a : Int), .int .i64 (s : Int)] w fun r w' => r = .returned (iV (upN a s)) ∧ w = w' := by
  have hz : ((s : Int) == 0) = false := beq_eq_false_iff_ne.2 (by omega)
  have hl := up_le a s hs
  have hc := up_cast a s hs
  go_enter Try.func50, Try.ntmps50
  go_wp2
  go_ret
  refine ⟨?_, rfl⟩
  have e : wrap64 (((a : Int) + (s : Int) - 1) / (s : Int) * (s : Int)) = ((upN a s : Nat) : Int) := by
    rw [hc]
    unfold wrap64
    omega
  simp

def szN (k : Int) : Nat := (sizeK k).toNat
theorem sz_cast (k : Int) : sizeK k = ((szN k : Nat) : Int) := by
  unfold szN sizeK
  repeat' split
  all_goals rfl
theorem sz_le (k : Int) : szN k ≤ 8 := by
  unfold szN sizeK
  repeat' split
  all_goals decide
/-- A field that can be. -/
def okF (f : Fld) : Prop := 1 ≤ szN f.kind ∧ 1 ≤ f.count ∧ f.count ≤ 8
def pStep (st : Nat × Nat × List Nat) (f : Fld) : Nat × Nat × List Nat :=
  (upN st.1 (szN f.kind) + szN f.kind * f.count.toNat, max st.2.1 (szN f.kind), st.2.2 ++ [upN st.1 (szN f.kind)])
def pRun (fs : List Fld) : Nat × Nat × List Nat := fs.foldl pStep (0, 1, [])
def pSize (fs : List Fld) : Nat := upN (pRun fs).1 (pRun fs).2.1

theorem take_next {α : Type} {l : List α} {k : Nat} {x : α} (h : l[k]? = some x) : l.take (k + 1) = l.take k ++ [x] := by
  rw [List.take_add_one, h]; rfl
theorem pRun_next {fs : List Fld} {k : Nat} {f : Fld} (h : fs[k]? = some f) : pRun (fs.take (k + 1)) = pStep (pRun (fs.take k)) f := by
  unfold pRun; rw [take_next h, List.foldl_append]; rfl
theorem mul_le8 {a b : Nat} (ha : a ≤ 8) (hb : b ≤ 8) : a * b ≤ 64 := Nat.mul_le_mul ha hb
theorem pStep_le {st : Nat × Nat × List Nat} {f : Fld} {m : Nat} (h1 : st.1 ≤ m) (h2 : 1 ≤ st.2.1 ∧ st.2.1 ≤ 8) (hf : okF f) : (pStep st f).1 ≤ m + 71 ∧ (1 ≤ (pStep st f).2.1 ∧ (pStep st f).2.1 ≤ 8) := by
  have a1 := up_le st.1 (szN f.kind) hf.1
  have a2 := sz_le f.kind
  have a3 := mul_le8 a2 (show f.count.toNat ≤ 8 by have := hf.2; omega)
  unfold pStep
  refine ⟨?_, ?_⟩ <;> dsimp only <;> omega

instance (f : Fld) : Decidable (okF f) := inferInstanceAs (Decidable (_ ∧ _))
/-- The error of fields: none, one that can't be, or no room. -/
def layC (fs : List Fld) : Nat := if 8 < fs.length then 1 else if ∀ f ∈ fs, okF f then (if 256 < pSize fs then 5 else 0) else 1

/-- The plan under way. -/
structure PL (w wr : World) (ats : List Nat) (av : Value) : Prop where
  k : Keep (fun _ => False) w wr
  p2 : wr.heap[w.heap.size]? = some (.cells #[.int .i64 0, .slice none 0 0] 45 (0, 0))
  p3 : wr.heap[w.heap.size + 1]? = some (.cells #[.int .i64 0, av] 45 (0, 0))
  a : wr.ownsRow (w.heap.size + 2) 3 1 av ats.length (ats.map iV)

theorem PL.keep0 {w wr w' : World} {ats : List Nat} {av : Value} (h : PL w wr ats av) (hk : Keep (fun _ => False) wr w') : PL w w' ats av :=
  ⟨h.k.trans hk, hk.get h.p2 id, hk.get h.p3 id, owns_keep h.a (fun q hq => hk.block q (h.a.lt q hq).2 id)⟩

theorem PL.app {w wr w5 : World} {ats : List Nat} {av v' : Value} {x : Nat} {o : Obj} (h : PL w wr ats av) (hown : w5.ownsRow (w.heap.size + 2) 3 1 v' (ats.length + 1) (ats.map iV ++ [iV x])) (hg : (wr.alloc o).grownBy w5 av.ownBlock) :
    PL w (w5.setCell ⟨w.heap.size + 1, 1, none⟩ v') (ats ++ [x]) v' := by
  have hk : Keep (fun q => av.ownBlock = some q) wr w5 := ((Keep.refl _ wr).alloc o).grown hg (fun k hk => .inr hk)
  have h2 : ¬ av.ownBlock = some w.heap.size := fun e => by have := (h.a.lt _ e).1; omega
  have h3 : ¬ av.ownBlock = some (w.heap.size + 1) := fun e => by have := (h.a.lt _ e).1; omega
  have hkk : Keep (fun _ => False) w w5 := h.k.trans' hk (fun i hi e => by have := (h.a.lt _ e).1; omega)
  refine ⟨hkk.setCell_new (by simp) _, (hsc_ne v' (by omega)).trans (hk.get h.p2 h2), (hsc_same (hk.get h.p3 h3) 1 v').trans rfl, ?_⟩
  have := owns_keep (w' := w5.setCell ⟨w.heap.size + 1, 1, none⟩ v') hown (fun q hq => hsc_ne v' (fun e => by have := (hown.lt q hq).1; omega))
  simpa using this

theorem info_int : (Try.prog.info? 3).map (fun i => (i.zero, i.size, i.bytes)) = some (some (.int .i64 0), 1, 8) := by kernel_rfl
theorem info_parts' {P : Program} {t : TypeId} {z : Value} {n m : Nat} (h : (P.info? t).map (fun i => (i.zero, i.size, i.bytes)) = some (some z, n, m)) : ∃ i, P.info? t = some i ∧ i.zero = some z ∧ i.size = n ∧ i.bytes = m := by
  cases e : P.info? t with
  | none => rw [e] at h; cases h
  | some i => rw [e] at h; simp at h; exact ⟨i, rfl, h.1, h.2.1, h.2.2⟩

set_option maxRecDepth 20000 in
set_option maxHeartbeats 2000000 in
theorem plan_of (fs : List Fld) (p : Option Addr) (cap : Nat) (w : World) (hl : fs.length ≤ 8) (hf : FP w w.heap.size p fs) (hok : ∀ f ∈ fs, okF f) :
    Calls Try.prog 27 #[.slice p fs.length cap] w fun r w' => ∃ v, r = .returned (.agg #[iV (pSize fs), v]) ∧ w'.ownsRow w.heap.size 3 1 v fs.length ((pRun fs).2.2.map iV) ∧ Keep (fun _ => False) w w' := by
  obtain ⟨i0, hi0, hz0, hz1, hz2⟩ := info_parts' info_int
  have HF := hid hf; have HOK := hid hok
  clear hf hok
  have hsz : (w.alloc (.cells #[.int .i64 0, .slice none 0 0] 45)).heap.size = w.heap.size + 1 := by simp
  have hb3 := heap_alloc_new (w.alloc (.cells #[.int .i64 0, .slice none 0 0] 45)) (.cells #[.int .i64 0, .slice none 0 0] 45)
  rw [hsz] at hb3
  have hP0 : PL w ((w.alloc (.cells #[.int .i64 0, .slice none 0 0] 45)).alloc (.cells #[.int .i64 0, .slice none 0 0] 45)) [] (.slice none 0 0) :=
    ⟨((Keep.refl _ w).alloc _).alloc _, ((Keep.refl (fun _ => False) _).alloc _).get (heap_alloc_new w _) id, hb3, World.ownsRow_nil _ _ _ _⟩
  have HP0 := hid hP0
  clear hsz hb3 hP0
  go_enter Try.func27, Try.ntmps27
  go_wp2_with fail
  go_loopw [4, 5, 7, 8, 9, 13] (fun en mo _ _ _ i wr => ∃ (k : Nat) (av : Value), k ≤ fs.length ∧ i = iV k ∧ en = iV (pRun (fs.take k)).1 ∧ mo = iV (pRun (fs.take k)).2.1 ∧ ((pRun (fs.take k)).1 ≤ 71 * k ∧ 1 ≤ (pRun (fs.take k)).2.1 ∧ (pRun (fs.take k)).2.1 ≤ 8) ∧ (pRun (fs.take k)).2.2.length = k ∧ PL w wr (pRun (fs.take k)).2.2 av) (fun _ _ _ _ _ i _ => fs.length + 1 - (intOf i).toNat)
  case atStart => exact ⟨0, .slice none 0 0, by omega, rfl, rfl, rfl, ⟨by simp [pRun], by simp [pRun], by simp [pRun]⟩, rfl, HP0.out⟩
  case round =>
    clear HP0
    obtain ⟨k, av, hk, rfl, rfl, rfl, ⟨hb1, hb2, hb3⟩, hlen, hP⟩ := hrel
    have HP := hid hP; have HLEN := hid hlen
    clear hP hlen
    by_cases hlt : k < fs.length
    · obtain ⟨f, hfk⟩ : ∃ f, fs[k]? = some f := ⟨fs[k], by simp [hlt]⟩
      have hok := HOK.out f (List.mem_of_getElem? hfk)
      have hnx := pRun_next hfk
      have HNX := hid hnx
      have hle := pStep_le (m := 71 * k) hb1 ⟨hb2, hb3⟩ hok
      have HLE := hid hle
      have hfp := FP.low HF.out (Low.of_keep HP.out.k (Nat.le_refl _) (fun _ h => h.elim))
      obtain ⟨b, off, rfl, hb, c0, c1, c2⟩ := FP.at hfp hfk
      have hin : (0 : Int) ≤ (k : Int) ∧ (k : Int) < (fs.length : Int) := ⟨by omega, by omega⟩
      have hs8 := sz_le f.kind
      have hs1 := hok.1
      have hc := hok.2
      have hup := up_le (pRun (fs.take k)).1 (szN f.kind) hs1
      obtain ⟨nm, kd, ct⟩ := f
      obtain ⟨cn, rfl⟩ := Int.eq_ofNat_of_zero_le (a := ct) (by have := hc.1; simp at this; omega)
      have HFK := hid hfk
      simp only at c0 c1 c2 hs8 hs1 hc hup
      have hm64 : szN kd * cn ≤ 64 := mul_le8 hs8 (by omega)
      have HSTEP : Hid (pStep (pRun (fs.take k)) ⟨nm, kd, (cn : Int)⟩ = (upN (pRun (fs.take k)).1 (szN kd) + szN kd * cn, max (pRun (fs.take k)).2.1 (szN kd), (pRun (fs.take k)).2.2 ++ [upN (pRun (fs.take k)).1 (szN kd)])) := hid rfl
      clear hok hnx hle hfp hfk
      generalize pRun (fs.take k) = st at *
      obtain ⟨en, mo, ats⟩ := st
      simp only at hb1 hb2 hb3 hup
      have hz := sz_cast kd
      have hap := (HP.out.keep0 ((Keep.refl (fun _ => False) wr).alloc (.cells #[.string nm, .int .i64 kd, .int .i64 (cn : Int)] 41)))
      have HAP := hid hap
      have HQA : Hid (av.ownBlock ≠ some wr.heap.size) := hid (fun h => absurd (HP.out.a.lt _ h).2 (Nat.lt_irrefl _))
      have HQ3 : Hid (wr.heap.size ≠ w.heap.size + 1) := hid (by have := lt_of_heap HP.out.p3; omega)
      have hfb := heap_alloc_new wr (.cells #[.string nm, .int .i64 kd, .int .i64 (cn : Int)] 41)
      have HFB := hid hfb
      clear hap hfb
      go_wp2_with fail
      generalize wr.alloc (.cells #[.string nm, .int .i64 kd, .int .i64 (cn : Int)] 41) = wa at *
      generalize wr.heap.size = q at *
      refine (size_of kd _).mono ?_
      rintro r w1 ⟨rfl, hk1⟩
      have HP1 := hid (HAP.out.keep0 hk1)
      have HFB1 := hid (hk1.get HFB.out id)
      rw [hz]
      clear hz c0 c1 c2 hk1 HAP HFB
      generalize szN kd = s at *
      go_wp2_with fail
      refine (up_at en s _ hs1 (by omega) (by omega)).mono ?_
      rintro r w' ⟨rfl, rfl⟩
      generalize upN en s = x at *
      have hq2 := HP1.out.k.size
      have hc3 : w1.cell? ⟨w.heap.size + 1, 1, none⟩ = some av := cell_of HP1.out.p3 (by rfl)
      have hg2 : w1.cell? ⟨q, 2, none⟩ = some (.int .i64 (cn : Int)) := cell_of HFB1.out (by rfl)
      have hx0 : x ≤ 1000000 := by omega
      have hm0 : wrap64 ((s : Int) * (cn : Int)) = ((s * cn : Nat) : Int) := by rw [← Int.natCast_mul]; unfold wrap64; omega
      have HM0 := hid hm0
      have hfr := free_of HP1.out.p3 1
      clear hm0
      go_wp2_with (first
        | (at_builtin; go_loud (refine wpList_append_rd rfl (.tmp 24) (.tmp 26) _ rfl (w.heap.size + 2) _ i0 _ 1 8 Try.underlying43 hi0 hz0 hz1 hz2 rfl (by decide) _ ats.length _ (by rfl) (HP1.out.a.alloc _) _ 1 [iV x] (by rfl) (rd_block (heap_alloc_new w1 _) (by simp) (by simp [Value.oneCell'])) (by unfold maxLen; have h : ats.length = k := HLEN.out; omega) (by have h : ats.length = k := HLEN.out; omega) (by have := lt_of_heap HP1.out.p3; simp; omega) ?_)
           go_loud (intro v' w5 hown5 hgrow5 hat5 hn5
                    obtain ⟨vp, vc, rfl⟩ := owns_val hown5
                    have HP5 := hid (HP1.out.app hown5 hgrow5)
                    have hk5 : Keep (fun q => av.ownBlock = some q) w1 w5 := ((Keep.refl _ w1).alloc _).grown hgrow5 (fun k hk => .inr hk)
                    have hd3 : w5.cell? ⟨w.heap.size + 1, 1, none⟩ = some av := cell_of (hk5.get HP1.out.p3 (fun e => by have := (HP1.out.a.lt _ e).1; omega)) (by rfl)
                    have hd4 : w5.frozen? ⟨w.heap.size + 1, 1, none⟩ = false := free_of (hk5.get HP1.out.p3 (fun e => by have := (HP1.out.a.lt _ e).1; omega)) 1
                    have hqh : (w5.setCell ⟨w.heap.size + 1, 1, none⟩ (.slice vp (ats.length + 1) vc)).heap[q]? = some (.cells #[.string nm, .int .i64 kd, .int .i64 (cn : Int)] 41 (0, 0)) := (hsc_ne _ HQ3.out).trans (hk5.get HFB1.out HQA.out)
                    have hq5 : (w5.setCell ⟨w.heap.size + 1, 1, none⟩ (.slice vp (ats.length + 1) vc)).cell? ⟨q, 2, none⟩ = some (.int .i64 (cn : Int)) := cell_of hqh (by rfl)
                    clear hown5 hgrow5 hat5 hn5 hk5 hqh)))
      go_roundw
      case rel =>
        have e := HNX.out
        rw [HSTEP.out] at e
        have hb := HLE.out
        rw [HSTEP.out] at hb
        refine ⟨k + 1, .slice vp (ats.length + 1) vc, by omega, by go_num, ?_⟩
        rw [e]
        refine ⟨congrArg (Value.int .i64) (by rw [Int.natCast_add, Int.natCast_mul]), congrArg (Value.int .i64) ?_, ⟨by have := hb.1; omega, hb.2.1, hb.2.2⟩, ?_, HP5.out⟩
        · show (if mo < s then (s : Int) else (mo : Int)) = ((max mo s : Nat) : Int)
          rw [Nat.max_def]
          split <;> split <;> omega
        · have h : ats.length = k := HLEN.out
          simp [h]
      case measure => simp [intOf]; omega
    · obtain rfl : k = fs.length := by omega
      rw [List.take_length] at hb1 hb2 hb3 HP HLEN
      rw [List.take_length]
      have HQ : Hid (pSize fs = upN (pRun fs).1 (pRun fs).2.1) := hid rfl
      generalize hst : pRun fs = st at *
      have HST := hid hst
      clear hst
      obtain ⟨en, mo, ats⟩ := st
      simp only at hb1 hb2 hb3
      obtain ⟨ap, ac, rfl⟩ := owns_val HP.out.a
      go_wp2_with fail
      refine (up_at en mo _ hb2 (by omega) (by omega)).mono ?_
      rintro r w' ⟨rfl, rfl⟩
      have HQ2 : Hid (pSize fs = upN en mo) := hid HQ.out
      generalize upN en mo = z at *
      have hc3 := cell_of HP.out.p3 (i := 0) (by rfl)
      have hc4 := cell_of HP.out.p3 (i := 1) (by rfl)
      have hf3 := free_of HP.out.p3 0
      have hc5 := cell_of HP.out.p2 (i := 0) (by rfl)
      have hc6 := cell_of HP.out.p2 (i := 1) (by rfl)
      have hf5 := free_of HP.out.p2 0
      have hf6 := free_of HP.out.p2 1
      go_wp2
      (try simp only [Exit.inBlock, Exit.then])
      have hr := cells2 (.int .i64 (z : Int)) (.slice ap ats.length ac) ((hsc_ne (w := wr) (g := w.heap.size + 1) (i := 0) (k := w.heap.size) (.int .i64 (z : Int)) (by omega)).trans HP.out.p2)
      refine bodyPost_ret (results_c rfl _ rfl (run_loadVar_row _ w.heap.size _ 45 _ _ _ hr Try.underlying45 rfl (by kernel_rfl))) rfl ?_
      have hk := ((HP.out.k.setCell_new (p := ⟨w.heap.size + 1, 0, none⟩) (by simp) (.int .i64 (z : Int))).setCell_new (p := ⟨w.heap.size, 0, none⟩) (by simp) (.int .i64 (z : Int))).setCell_new (p := ⟨w.heap.size, 1, none⟩) (by simp) (.slice ap ats.length ac)
      have hl2 : ats.length = fs.length := HLEN.out
      have ho := owns_keep (w' := ((wr.setCell ⟨w.heap.size + 1, 0, none⟩ (.int .i64 (z : Int))).setCell ⟨w.heap.size, 0, none⟩ (.int .i64 (z : Int))).setCell ⟨w.heap.size, 1, none⟩ (.slice ap ats.length ac)) HP.out.a (fun q hq => by
        have h1 := (HP.out.a.lt q hq).1
        rw [hsc_ne _ (by omega), hsc_ne _ (by omega), hsc_ne _ (by omega)])
      refine ⟨.slice ap ats.length ac, by rw [HQ2.out], ?_, hk⟩
      rw [HST.out, ← hl2]
      exact owns_mono ho (by omega)

theorem field_plan (z : Nat) (v : Value) (w : World) : (Instr.field 45 (.agg #[iV z, v]) 0).run Try.prog w = .ok (iV z) w := by kernel_rfl

set_option maxRecDepth 20000 in
set_option maxHeartbeats 2000000 in
theorem layout_check (fs : List Fld) (p : Option Addr) (cap : Nat) (w : World) (hf : FP w w.heap.size p fs) :
    Calls Try.prog 17 #[.slice p fs.length cap] w fun r w' => r = .returned (iV (layC fs)) ∧ Keep (fun _ => False) w w' := by
  have HF := hid hf
  clear hf
  go_enter Try.func17, Try.ntmps17
  by_cases hl : 8 < fs.length
  · have e1 : decide ((8 : Int) < (fs.length : Int)) = true := decide_eq_true (by omega)
    have e2 : decide (8 < fs.length) = true := decide_eq_true hl
    go_wp2
    go_ret
    exact ⟨by simp [layC, hl], Keep.refl _ _⟩
  have e1 : decide ((8 : Int) < (fs.length : Int)) = false := decide_eq_false (by omega)
  have e2 : decide (8 < fs.length) = false := decide_eq_false hl
  have e3 : fs.length ≤ 8 := by omega
  go_wp2_with fail
  clear e1 e2
  go_loopw [4, 10] (fun _ i wr => ∃ k : Nat, k ≤ fs.length ∧ i = iV k ∧ Keep (fun _ => False) w wr ∧ ∀ f ∈ fs.take k, okF f) (fun _ i _ => fs.length + 1 - (intOf i).toNat)
  case atStart => exact ⟨0, by omega, rfl, Keep.refl _ _, by simp⟩
  case round =>
    obtain ⟨k, hk, rfl, hkeep, hall⟩ := hrel
    have HK := hid hkeep; have HALL := hid hall
    clear hkeep hall
    by_cases hlt : k < fs.length
    · obtain ⟨f, hfk⟩ : ∃ f, fs[k]? = some f := ⟨fs[k], by simp [hlt]⟩
      have hfp := FP.low HF.out (Low.of_keep HK.out (Nat.le_refl _) (fun _ h => h.elim))
      obtain ⟨b, off, rfl, hb, c0, c1, c2⟩ := FP.at hfp hfk
      have hin : (0 : Int) ≤ (k : Int) ∧ (k : Int) < (fs.length : Int) := ⟨by omega, by omega⟩
      have HBAD : Hid (¬ okF f → layC fs = 1) := hid (fun hn => by
        unfold layC
        rw [if_neg hl, if_neg (fun h => hn (h f (List.mem_of_getElem? hfk)))])
      have HGOOD : Hid (okF f → ∀ g ∈ fs.take (k + 1), okF g) := hid (fun ho g hg => by
        rw [take_next hfk] at hg
        rcases List.mem_append.1 hg with h | h
        · exact HALL.out g h
        · rw [List.mem_singleton.1 h]; exact ho)
      clear hfk hfp HALL
      obtain ⟨nm, kd, ct⟩ := f
      simp only at c0 c1 c2
      have hz := sz_cast kd
      have hs8 := sz_le kd
      have hfb := heap_alloc_new wr (.cells #[.string nm, .int .i64 kd, .int .i64 ct] 41)
      have hkb := HK.out.alloc (.cells #[.string nm, .int .i64 kd, .int .i64 ct] 41)
      have HFB := hid hfb; have HKB := hid hkb
      have HOK : Hid (okF ⟨nm, kd, ct⟩ ↔ 1 ≤ szN kd ∧ 1 ≤ ct ∧ ct ≤ 8) := hid Iff.rfl
      clear hfb hkb HK
      go_wp2_with fail
      generalize wr.alloc (.cells #[.string nm, .int .i64 kd, .int .i64 ct] 41) = wa at *
      generalize wr.heap.size = q at *
      refine (size_of kd _).mono ?_
      rintro r w1 ⟨rfl, hk1⟩
      have HK1 := hid (HKB.out.trans hk1)
      have hg2 := cell_of (hk1.get HFB.out id) (i := 2) (by rfl)
      replace hg2 : w1.cell? ⟨q, 2, none⟩ = some (.int .i64 ct) := hg2
      rw [hz]
      clear hz c0 c1 c2 hk1 HFB HKB
      generalize szN kd = s at *
      by_cases h0 : s = 0
      · have g1 : ((s : Int) == 0) = true := beq_iff_eq.2 (by omega)
        have g2 : (s == 0) = true := beq_iff_eq.2 h0
        have g3 := HBAD.out (fun h => by have := (HOK.out.1 h).1; omega)
        have G3 := hid g3
        clear g3 HBAD HGOOD h0
        go_wp2
        go_ret
        exact ⟨by rw [G3.out]; rfl, HK1.out⟩
      have g1 : ((s : Int) == 0) = false := beq_eq_false_iff_ne.2 (by omega)
      have g2 : (s == 0) = false := beq_eq_false_iff_ne.2 h0
      by_cases h1 : ct < 1
      · have g4 : decide (ct < 1) = true := decide_eq_true h1
        have G3 := hid (HBAD.out (fun h => by have := (HOK.out.1 h).2; omega))
        clear HBAD HGOOD
        go_wp2
        go_ret
        exact ⟨by rw [G3.out]; rfl, HK1.out⟩
      have g4 : decide (ct < 1) = false := decide_eq_false h1
      by_cases h2 : 8 < ct
      · have g5 : decide (8 < ct) = true := decide_eq_true h2
        have G3 := hid (HBAD.out (fun h => by have := (HOK.out.1 h).2; omega))
        clear HBAD HGOOD
        go_wp2
        go_ret
        exact ⟨by rw [G3.out]; rfl, HK1.out⟩
      have g5 : decide (8 < ct) = false := decide_eq_false h2
      have G3 := hid (HGOOD.out (HOK.out.2 ⟨by omega, by omega, by omega⟩))
      clear HBAD HGOOD
      go_wp2
      go_roundw
      case rel => exact ⟨k + 1, by omega, by go_num, HK1.out, G3.out⟩
      case measure => simp [intOf]; omega
    · obtain rfl : k = fs.length := by omega
      have hok : ∀ f ∈ fs, okF f := by have := HALL.out; rwa [List.take_length] at this
      have hfp := FP.low HF.out (Low.of_keep HK.out (Nat.le_refl _) (fun _ h => h.elim))
      have hlc : layC fs = if 256 < pSize fs then 5 else 0 := by unfold layC; rw [if_neg hl, if_pos hok]
      have HPL := hid (fun cap => plan_of fs p cap wr e3 (FP.mono hfp HK.out.size) hok)
      have HLC := hid hlc
      clear hok hfp hlc HALL
      go_wp2_with fail
      refine (HPL.out _).mono ?_
      rintro r w1 ⟨v, rfl, hown, hk1⟩
      have HK1 := hid (HK.out.trans hk1)
      have hfd := field_plan (pSize fs) v w1
      clear hown hk1 HPL
      generalize pSize fs = z at *
      by_cases hz : 256 < z
      · have g1 : decide ((256 : Int) < (z : Int)) = true := decide_eq_true (by omega)
        have g2 : decide (256 < z) = true := decide_eq_true hz
        have G3 : Hid (layC fs = 5) := hid (by rw [HLC.out, if_pos hz])
        clear HLC
        go_wp2
        go_ret
        exact ⟨by rw [G3.out]; rfl, HK1.out⟩
      · have g1 : decide ((256 : Int) < (z : Int)) = false := decide_eq_false (by omega)
        have g2 : decide (256 < z) = false := decide_eq_false hz
        have G3 : Hid (layC fs = 0) := hid (by rw [HLC.out, if_neg hz])
        clear HLC
        go_wp2
        go_ret
        exact ⟨by rw [G3.out]; rfl, HK1.out⟩

end Go.Proofs.Ytkgkcnmnfhehfaa
