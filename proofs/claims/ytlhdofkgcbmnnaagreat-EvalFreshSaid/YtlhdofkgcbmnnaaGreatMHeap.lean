/- What is proved: small facts on worlds (which blocks a call may turn), for the walks of this claim. -/
import Derived.WalkKit
import Derived.WalkSpells
import Derived.WalkLawsBesides
import Derived.Maps.AppendAt
import Derived.Test.YtlhdofkgcbmnnaaGreatRows
import Derived.Deep.Cut
import Derived.Deep.CutRange
import Derived.Deep.CutBlock
import Derived.Laws.Rows
namespace Go.Proofs.Heap
open Go.RowKit

/-- Outside of S what was there is as it was; no block has gone; the streams are as they were. -/
structure Keep (S : Nat → Prop) (w w' : World) : Prop where
  os : w'.os = w.os
  tape : w'.tape = w.tape
  output : w'.output = w.output
  size : w.heap.size ≤ w'.heap.size
  block : ∀ k, k < w.heap.size → ¬ S k → w'.heap[k]? = w.heap[k]?

theorem Keep.refl (S : Nat → Prop) (w : World) : Keep S w w := ⟨rfl, rfl, rfl, Nat.le_refl _, fun _ _ _ => rfl⟩
theorem Keep.trans {S : Nat → Prop} {a b c : World} (h : Keep S a b) (k : Keep S b c) : Keep S a c :=
  ⟨k.os.trans h.os, k.tape.trans h.tape, k.output.trans h.output, Nat.le_trans h.size k.size, fun i hi hs => (k.block i (Nat.lt_of_lt_of_le hi h.size) hs).trans (h.block i hi hs)⟩
theorem Keep.mono {S T : Nat → Prop} {w w' : World} (h : Keep S w w') (hs : ∀ k, k < w.heap.size → S k → T k) : Keep T w w' :=
  ⟨h.os, h.tape, h.output, h.size, fun k hk ht => h.block k hk (fun s => ht (hs k hk s))⟩
/-- Two steps, of which the second may turn what is new too. -/
theorem Keep.trans' {S T : Nat → Prop} {a b c : World} (h : Keep S a b) (k : Keep T b c) (hT : ∀ i, i < a.heap.size → T i → S i) : Keep S a c :=
  ⟨k.os.trans h.os, k.tape.trans h.tape, k.output.trans h.output, Nat.le_trans h.size k.size,
    fun i hi hs => (k.block i (Nat.lt_of_lt_of_le hi h.size) (fun t => hs (hT i hi t))).trans (h.block i hi hs)⟩
theorem Keep.drew {S : Nat → Prop} {a w : World} (h : Keep S a w) : Keep S a w.drew := ⟨h.os, h.tape, h.output, h.size, h.block⟩
theorem Keep.drewN {S : Nat → Prop} {a w : World} (n : Nat) (h : Keep S a w) : Keep S a (w.drewN n) := ⟨h.os, h.tape, h.output, h.size, h.block⟩
theorem Keep.alloc {S : Nat → Prop} {a w : World} (h : Keep S a w) (o : Obj) : Keep S a (w.alloc o) :=
  ⟨h.os, h.tape, h.output, Nat.le_trans h.size (by simp), fun k hk hs => (Below.heap_alloc w o k (Nat.lt_of_lt_of_le hk h.size)).trans (h.block k hk hs)⟩
theorem Keep.setRow {S : Nat → Prop} {a w : World} (h : Keep S a w) {g : Nat} (hg : S g) (cs : Array Value) : Keep S a (w.setRow g cs) :=
  ⟨h.os, h.tape, h.output, by have := h.size; simpa [World.setRow] using this, fun k hk hs => (setRow_other w g k cs (fun e => hs (e ▸ hg))).trans (h.block k hk hs)⟩
theorem Keep.setRow_new {S : Nat → Prop} {a w : World} (h : Keep S a w) {g : Nat} (hg : a.heap.size ≤ g) (cs : Array Value) : Keep S a (w.setRow g cs) :=
  ⟨h.os, h.tape, h.output, by have := h.size; simpa [World.setRow] using this, fun k hk hs => (setRow_other w g k cs (by omega)).trans (h.block k hk hs)⟩
theorem Keep.setCell {S : Nat → Prop} {a w : World} (h : Keep S a w) {p : Addr} (hg : S p.block) (u : Value) : Keep S a (w.setCell p u) :=
  ⟨h.os, h.tape, h.output, by have := h.size; simpa [World.setCell] using this, fun k hk hs => (Below.heap_setCell w p u k (fun e => hs (e ▸ hg))).trans (h.block k hk hs)⟩
theorem Keep.setCell_new {S : Nat → Prop} {a w : World} (h : Keep S a w) {p : Addr} (hg : a.heap.size ≤ p.block) (u : Value) : Keep S a (w.setCell p u) :=
  ⟨h.os, h.tape, h.output, by have := h.size; simpa [World.setCell] using this, fun k hk hs => (Below.heap_setCell w p u k (by omega)).trans (h.block k hk hs)⟩
theorem Keep.grown {S : Nat → Prop} {a w w' : World} {row : Option Nat} (h : Keep S a w) (hg : w.grownBy w' row) (hr : ∀ k, row = some k → a.heap.size ≤ k ∨ S k) : Keep S a w' :=
  ⟨hg.os.trans h.os, hg.tape.trans h.tape, hg.output.trans h.output, Nat.le_trans h.size hg.size, fun k hk hs =>
    (hg.block k (Nat.lt_of_lt_of_le hk h.size) (fun e => by rcases hr k e.symm with h1 | h1 <;> first | omega | exact hs h1)).trans (h.block k hk hs)⟩
theorem Keep.below {w w' : World} (h : Keep (fun _ => False) w w') : Below w.heap.size w w' := ⟨h.os, h.tape, h.output, h.size, fun k hk => h.block k hk id⟩
theorem Keep.of_below {S : Nat → Prop} {w w' : World} (h : Below w.heap.size w w') : Keep S w w' := ⟨h.os, h.tape, h.output, h.size, fun k hk _ => h.block k hk⟩
theorem Keep.get {S : Nat → Prop} {w w' : World} (h : Keep S w w') {k : Nat} {o : Obj} (hk : w.heap[k]? = some o) (hs : ¬ S k) : w'.heap[k]? = some o :=
  (h.block k (Array.getElem?_eq_some_iff.1 hk).1 hs).trans hk

/-- A fact behind a name, kept from the walk. -/
theorem hid {p : Prop} (h : p) : Hid p := h

theorem lt_of_heap {w : World} {k : Nat} {o : Obj} (h : w.heap[k]? = some o) : k < w.heap.size := (Array.getElem?_eq_some_iff.1 h).1

/-- A cell of a block that is known whole. -/
theorem cell_of {w : World} {g : Nat} {cur : Array Value} {t : TypeId} {fr : Nat × Nat} (h : w.heap[g]? = some (.cells cur t fr)) {i : Nat} {v : Value} (hv : cur[i]? = some v) : w.cell? ⟨g, i, none⟩ = some v := by
  simp [World.cell?, h, hv]
theorem free_of {w : World} {g : Nat} {cur : Array Value} {t : TypeId} (h : w.heap[g]? = some (.cells cur t (0, 0))) (i : Nat) : w.frozen? ⟨g, i, none⟩ = false := by
  simp [World.frozen?, h]

/-- An owned row's block, known whole. -/
theorem owns_block {w : World} {base : Nat} {e : TypeId} {size : Nat} {v : Value} {n : Nat} {xs : List Value} (h : w.ownsRow base e size v n xs) :
    (v = .slice none 0 0 ∧ n = 0 ∧ xs = []) ∨ ∃ g cap cur, v = .slice (some ⟨g, 0, none⟩) n cap ∧ base ≤ g ∧ w.heap[g]? = some (.cells cur e (0, 0)) ∧ n ≤ cap ∧ cap ≤ maxLen ∧ cur.size = cap * size ∧ cur.toList.take (n * size) = xs := by
  obtain ⟨h1, h2 | h2⟩ := h
  · obtain ⟨rfl, rfl⟩ := h2
    exact .inl ⟨rfl, rfl, List.eq_nil_of_length_eq_zero (by simpa using h1)⟩
  · exact .inr h2

theorem owns_low {w : World} {base : Nat} {e : TypeId} {size : Nat} {v : Value} {n : Nat} {xs : List Value} (h : w.ownsRow base e size v n xs) : w.ownsRow 0 e size v n xs := by
  obtain ⟨h1, h2⟩ := h
  refine ⟨h1, ?_⟩
  rcases h2 with h2 | ⟨g, c, cur, e1, _, r⟩
  · exact .inl h2
  · exact .inr ⟨g, c, cur, e1, Nat.zero_le _, r⟩

theorem owns_some {w : World} {base : Nat} {e : TypeId} {size n c : Nat} {p : Option Addr} {xs : List Value} (h : w.ownsRow base e size (.slice p n c) n xs) (hn : 0 < n) : ∃ g, p = some ⟨g, 0, none⟩ := by
  rcases owns_block h with ⟨_, e2, _⟩ | ⟨g, cap, cur, e1, _⟩
  · omega
  · injection e1 with e1; exact ⟨g, e1⟩

/-- An element of an owned row of one-cell elements. -/
theorem owns_cell {w : World} {base : Nat} {e : TypeId} {g c n k : Nat} {xs : List Value} (h : w.ownsRow base e 1 (.slice (some ⟨g, 0, none⟩) n c) n xs) (hk : k < n) : w.cell? ⟨g, k, none⟩ = xs[k]? := by
  have hl := h.1
  have hk' : k < xs.length := by omega
  have := h.cells (g := g) rfl k xs[k] (List.getElem?_eq_getElem hk')
  have hadd : (⟨g, 0, none⟩ : Addr).add k = ⟨g, k, none⟩ := by unfold Addr.add; split <;> simp_all
  rw [hadd] at this
  rw [this, List.getElem?_eq_getElem hk']

theorem owns_free {w : World} {base : Nat} {e : TypeId} {size g c n : Nat} {xs : List Value} (h : w.ownsRow base e size (.slice (some ⟨g, 0, none⟩) n c) n xs) (k : Nat) : w.frozen? ⟨g, k, none⟩ = false := by
  rcases owns_block h with ⟨e1, _⟩ | ⟨g', c', cur, e1, _, hg, _⟩
  · cases e1
  · injection e1 with e1; injection e1 with e1; injection e1 with e1; subst e1
    exact free_of hg k

theorem owns_val {w : World} {base : Nat} {e : TypeId} {size : Nat} {v : Value} {n : Nat} {xs : List Value} (h : w.ownsRow base e size v n xs) : ∃ p c, v = .slice p n c := by
  rcases owns_block h with ⟨rfl, rfl, _⟩ | ⟨g, cap, cur, rfl, _⟩
  · exact ⟨none, 0, rfl⟩
  · exact ⟨_, _, rfl⟩

/-- An owned row in a world that keeps its block. -/
theorem owns_keep {w w' : World} {base : Nat} {e : TypeId} {size : Nat} {v : Value} {n : Nat} {xs : List Value} (h : w.ownsRow base e size v n xs)
    (hk : ∀ g, v.ownBlock = some g → w'.heap[g]? = w.heap[g]?) : w'.ownsRow base e size v n xs := by
  refine ⟨h.1, ?_⟩
  rcases h.2 with h2 | ⟨g, cap, cur, rfl, hb, hg, r⟩
  · exact .inl h2
  · exact .inr ⟨g, cap, cur, rfl, hb, by rw [hk g rfl]; exact hg, r⟩

/-- A store into a block that is known whole. -/
theorem hsc_same {w : World} {g : Nat} {cur : Array Value} {t : TypeId} {fr : Nat × Nat} (h : w.heap[g]? = some (.cells cur t fr)) (i : Nat) (u : Value) :
    (w.setCell ⟨g, i, none⟩ u).heap[g]? = some (.cells (cur.setIfInBounds i u) t fr) := by
  simp [World.setCell, Array.getElem?_modify, h]
theorem hsc_ne {w : World} {g k i : Nat} (u : Value) (h : k ≠ g) : (w.setCell ⟨g, i, none⟩ u).heap[k]? = w.heap[k]? := Below.heap_setCell w ⟨g, i, none⟩ u k h

def byteV (b : UInt8) : Value := .int .u8 b.toNat

theorem byteV_one (l : List UInt8) : ∀ v ∈ l.map byteV, v.oneCell' = true := by
  intro v hv
  obtain ⟨b, _, rfl⟩ := List.mem_map.1 hv
  rfl

/-- 'copy(dst, src)' out of a string into a row that is known whole. -/
theorem run_copy_string {P : Program} (w : World) (dT sT ty elem : TypeId) (g o dLen dCap : Nat) (s : ByteArray) (cur : Array Value) (t : TypeId)
    (hu : P.underlying dT = some (.slice elem)) (hs : (P.info? elem).map (·.size) = some 1)
    (hg : w.heap[g]? = some (.cells cur t (0, 0))) (hn : s.size ≤ dLen) (hfit : o + s.size ≤ cur.size) :
    (Builtin.copy_ #[dT, sT] ty #[.slice (some ⟨g, o, none⟩) dLen dCap, .string s]).run P w =
      .ok (goInt s.size) (w.setRow g (cur.toList.take o ++ s.data.toList.map byteV ++ cur.toList.drop (o + s.size)).toArray) := by
  have hst := run_storeCells_at P g o t (s.data.toList.map byteV) 0 cur w hg (by simpa using hfit) (byteV_one _)
  have hm : (s.data.map fun b => Value.int .u8 b.toNat) = (s.data.toList.map byteV).toArray := by
    apply Array.ext'; simp [byteV]
  cases hq : P.info? elem with
  | none => simp [hq] at hs
  | some i =>
    have hi : i.size = 1 := by simpa [hq] using hs
    have ht : List.take s.size (s.data.toList.map byteV) = s.data.toList.map byteV := List.take_of_length_le (by simp)
    simp only [List.length_map, Array.length_toList, Nat.add_zero] at hst
    simp [Builtin.copy_, run_underlying hu, Builtin.lenOf, Builtin.firstCells, sizeOf, typeInfo, hq, Nat.min_eq_left hn, hm, ht, hst]
/-- 'string(b)': the bytes of a piece of a block. -/
theorem run_bytes_string {P : Program} (w : World) (src dst e : TypeId) (hs : P.underlying src = some (.slice e)) (he : P.underlying e = some (.int .u8)) (hd : P.underlying dst = some .string)
    (b off len cap : Nat) (l : List UInt8) (hl : l.length = len) (hcell : ∀ i x, l[i]? = some x → w.cell? ⟨b, off + i, none⟩ = some (byteV x)) :
    (convert src dst (.slice (some ⟨b, off, none⟩) len cap)).run P w = .ok (.string ⟨l.toArray⟩) w := by
  have h := run_convert_bytes_arg (P := P) w src e hs he b off len cap (l.map fun b => (b.toNat : Int)) (by simpa using hl) (fun i hi => by
    have hlt : i < l.length := by omega
    rw [hcell i l[i] (List.getElem?_eq_getElem hlt)]
    simp [List.getD, hlt, byteV]) dst hd
  rw [h]
  have : strOfNums (l.map fun b => (b.toNat : Int)) = ⟨l.toArray⟩ := by
    have h2 : ∀ (a b : ByteArray), a.data.toList = b.data.toList → a = b := fun a b h => by
      cases a; cases b; simp at h; subst h; rfl
    refine h2 _ _ ?_
    rw [strOfNums_data, List.map_map]
    have : ((fun n : Int => UInt8.ofNat n.toNat) ∘ fun b : UInt8 => (b.toNat : Int)) = id := by funext x; simp
    rw [this]; simp
  rw [this]
/-- The slice value v reads as these cells, m elements of them (nil has none). -/
def Rd (w : World) (size : Nat) (v : Value) (m : Nat) (cells : List Value) : Prop :=
  cells.length = m * size ∧ (∀ u ∈ cells, u.oneCell' = true) ∧ ((v = .slice none 0 0 ∧ m = 0) ∨ ∃ ad c, v = .slice (some ad) m c ∧ ∀ j u, cells[j]? = some u → w.cell? (ad.add j) = some u)

theorem Rd.keep {w w' : World} {size : Nat} {v : Value} {m : Nat} {cells : List Value} (h : Rd w size v m cells) (hk : ∀ p u, w.cell? p = some u → w'.cell? p = some u) : Rd w' size v m cells := by
  refine ⟨h.1, h.2.1, ?_⟩
  rcases h.2.2 with h | ⟨ad, c, hv, hc⟩
  · exact .inl h
  · exact .inr ⟨ad, c, hv, fun j u hj => hk _ _ (hc j u hj)⟩

theorem rd_nil (w : World) (size : Nat) : Rd w size (.slice none 0 0) 0 [] := ⟨by simp, by simp, .inl ⟨rfl, rfl⟩⟩

theorem rd_own {w : World} {base : Nat} {e : TypeId} {size : Nat} {v : Value} {n : Nat} {xs : List Value} (h : w.ownsRow base e size v n xs) (h1 : ∀ u ∈ xs, u.oneCell' = true) : Rd w size v n xs := by
  refine ⟨h.1, h1, ?_⟩
  rcases owns_block h with ⟨rfl, rfl, _⟩ | ⟨g, cap, cur, rfl, _, _, _⟩
  · exact .inl ⟨rfl, rfl⟩
  · exact .inr ⟨_, _, rfl, h.cells rfl⟩

/-- A block of one element's cells, just laid. -/
theorem rd_block {w : World} {g : Nat} {cs : List Value} {t : TypeId} {size m c : Nat} {fr : Nat × Nat} (hg : w.heap[g]? = some (.cells cs.toArray t fr)) (hl : cs.length = m * size) (h1 : ∀ u ∈ cs, u.oneCell' = true) :
    Rd w size (.slice (some ⟨g, 0, none⟩) m c) m cs := by
  refine ⟨hl, h1, .inr ⟨_, _, rfl, fun j u hj => ?_⟩⟩
  have hadd : (⟨g, 0, none⟩ : Addr).add j = ⟨g, j, none⟩ := by unfold Addr.add; split <;> simp_all
  rw [hadd]
  exact cell_of hg (by simpa using hj)

/-- append, whatever is appended. -/
theorem wpList_append_rd {P : Program} {w : World} {ops : Array Oper} {rest : List Oper} {o : Oper} {a : Act} {Q : Exit → Act → World → Prop} (hgd : o.guard = none) (s x : Operand) (t : TypeId)
    (ho : o.op = .call { callee := .builtin .append, args := #[s, x], argTypes := #[t, t] })
    (base : Nat) (e : TypeId) (i : TypeInfo) (z : Value) (size bytes : Nat) (ht : P.underlying t = some (.slice e)) (hi : P.info? e = some i) (hz : i.zero = some z)
    (hsize : i.size = size) (hby : i.bytes = bytes) (hzs : z.cells.size = size) (hsz : 0 < size)
    (v : Value) (n : Nat) (xs : List Value) (hs : a.eval s = v) (hown : w.ownsRow base e size v n xs)
    (u : Value) (m : Nat) (news : List Value) (hx : a.eval x = u) (hrd : Rd w size u m news)
    (h63 : n + m ≤ maxLen) (hbytes : (n + m) * bytes ≤ 140737488355328) (hbase : base ≤ w.heap.size)
    (h : ∀ v' w', w'.ownsRow base e size v' (n + m) (xs ++ news) → w.grownBy w' v.ownBlock → (v'.ownBlock = v.ownBlock ∨ v'.ownBlock = some w.heap.size) → (v' = .slice none 0 0 ↔ v = .slice none 0 0 ∧ m = 0) → wpList P ops Q rest (a.put o.dst v') w') :
    wpList P ops Q (o :: rest) a w := by
  rcases hrd.2.2 with ⟨rfl, rfl⟩ | ⟨ad, c, rfl, hc⟩
  · have hn : news = [] := List.eq_nil_of_length_eq_zero (by simpa using hrd.1)
    subst hn
    refine wpList_plain hgd fun K hK => ?_
    have hrun : (Builtin.append_ #[t, t] o.type #[v, .slice none 0 0]).run P w = .ok v w := by
      rcases owns_block hown with ⟨rfl, rfl, _⟩ | ⟨g, cap, cur, rfl, _, _, hn, _⟩
      · simp [Builtin.append_, run_underlying ht, sizeOf, typeInfo, hi, Builtin.lenOf, Builtin.firstCells]
      · simp [Builtin.append_, run_underlying ht, sizeOf, typeInfo, hi, Builtin.lenOf, Builtin.firstCells, hn, storeCells]
    unfold Oper.wp execOp
    simp only [ho, resolve, invoke, builtin, Sem.run_bind, Sem.run_pure, Result.andThen_ok, List.map_toArray, List.map_cons, List.map_nil, hs, hx, hrun]
    exact hK _ _ (h v w (by simpa using hown) ⟨rfl, rfl, rfl, Nat.le_refl _, fun _ _ _ => rfl⟩ (.inl rfl) (by simp))
  · exact wpList_append_own_at w hgd s x t ho base e i z size bytes ht hi hz hsize hby hzs hsz v n xs hs hown ad m c news hx hrd.1 hc hrd.2.1 h63 hbytes hbase (fun v' w' h1 h2 h3 h4 => h v' w' h1 h2 h4 h3)
end Go.Proofs.Heap

namespace Go.Proofs.Sch
open Go.RowKit Go.Proofs.Heap

/-- A field. -/
structure Fld where
  name : ByteArray
  kind : Int
  count : Int
/-- A component. -/
structure Cmp where
  id : Int
  name : ByteArray
  fs : List Fld

/-- A row of things, each of z cells, in a block below a bound. -/
def RowP {α : Type} (z : Nat) (at_ : World → Nat → Nat → α → Prop) (w : World) (B : Nat) (p : Option Addr) (l : List α) : Prop :=
  l = [] ∨ ∃ b off, p = some ⟨b, off, none⟩ ∧ b < B ∧ ∀ i x, l[i]? = some x → at_ w b (off + i * z) x

def FldAt (w : World) (b o : Nat) (f : Fld) : Prop := w.cell? ⟨b, o, none⟩ = some (.string f.name) ∧ w.cell? ⟨b, o + 1, none⟩ = some (.int .i64 f.kind) ∧ w.cell? ⟨b, o + 2, none⟩ = some (.int .i64 f.count)
abbrev FP := RowP 3 FldAt
def CmpAt (B : Nat) (w : World) (b o : Nat) (c : Cmp) : Prop := w.cell? ⟨b, o, none⟩ = some (.int .i64 c.id) ∧ w.cell? ⟨b, o + 1, none⟩ = some (.string c.name) ∧
  ∃ p k, w.cell? ⟨b, o + 2, none⟩ = some (.slice p c.fs.length k) ∧ c.fs.length ≤ k ∧ FP w B p c.fs
def CP (w : World) (B : Nat) (p : Option Addr) (l : List Cmp) : Prop := RowP 3 (CmpAt B) w B p l

section
variable {w w' : World} {B B' : Nat} {p : Option Addr}

theorem RowP.imp {α : Type} {z : Nat} {at1 at2 : World → Nat → Nat → α → Prop} {l : List α} (h : RowP z at1 w B p l) (hB : B ≤ B') (ha : ∀ b o x, b < B → at1 w b o x → at2 w' b o x) : RowP z at2 w' B' p l := by
  rcases h with h | ⟨b, off, hp, hb, hc⟩
  · exact .inl h
  · exact .inr ⟨b, off, hp, by omega, fun i x hi => ha b _ x hb (hc i x hi)⟩

/-- Blocks below a bound are unchanged. -/
def Low (B : Nat) (w w' : World) : Prop := ∀ b, b < B → w'.heap[b]? = w.heap[b]?
theorem Low.refl : Low B w w := fun _ _ => rfl
theorem Low.trans {w2 : World} (h : Low B w w') (h2 : Low B w' w2) : Low B w w2 := fun b hb => (h2 b hb).trans (h b hb)
theorem Low.of_keep {S : Nat → Prop} (hk : Keep S w w') (hB : B ≤ w.heap.size) (hS : ∀ k, S k → B ≤ k) : Low B w w' := fun b hb => hk.block b (by omega) (fun h => by have := hS b h; omega)
theorem Low.keep0 (hk : Keep (fun _ => False) w w') : Low w.heap.size w w' := Low.of_keep hk (Nat.le_refl _) (fun _ h => h.elim)
theorem Low.cell (h : Low B w w') {b o : Nat} (hb : b < B) : w'.cell? ⟨b, o, none⟩ = w.cell? ⟨b, o, none⟩ := World.cell?_of_block (a := ⟨b, o, none⟩) (h b hb)

theorem FP.low {l : List Fld} (h : FP w B p l) (hl : Low B w w') : FP w' B p l :=
  RowP.imp h (Nat.le_refl _) fun b o x hb hx => ⟨by rw [hl.cell hb]; exact hx.1, by rw [hl.cell hb]; exact hx.2.1, by rw [hl.cell hb]; exact hx.2.2⟩
theorem FP.mono {l : List Fld} (h : FP w B p l) (hB : B ≤ B') : FP w B' p l := RowP.imp h hB fun _ _ _ _ hx => hx
theorem CP.low {l : List Cmp} (h : CP w B p l) (hl : Low B w w') : CP w' B p l :=
  RowP.imp h (Nat.le_refl _) fun b o x hb hx => by
    obtain ⟨h1, h2, q, k, h3, h4, h5⟩ := hx
    exact ⟨by rw [hl.cell hb]; exact h1, by rw [hl.cell hb]; exact h2, q, k, by rw [hl.cell hb]; exact h3, h4, FP.low h5 hl⟩
theorem CP.mono {l : List Cmp} (h : CP w B p l) (hB : B ≤ B') : CP w B' p l :=
  RowP.imp h hB fun b o x hb hx => by
    obtain ⟨h1, h2, q, k, h3, h4, h5⟩ := hx
    exact ⟨h1, h2, q, k, h3, h4, FP.mono h5 hB⟩

/-- A field of a row. -/
theorem FP.at {l : List Fld} (h : FP w B p l) {i : Nat} {f : Fld} (hi : l[i]? = some f) : ∃ b off, p = some ⟨b, off, none⟩ ∧ b < B ∧ w.cell? ⟨b, off + i * 3, none⟩ = some (.string f.name) ∧ w.cell? ⟨b, off + i * 3 + 1, none⟩ = some (.int .i64 f.kind) ∧ w.cell? ⟨b, off + i * 3 + 2, none⟩ = some (.int .i64 f.count) := by
  rcases h with rfl | ⟨b, off, hp, hb, hc⟩
  · simp at hi
  · obtain ⟨h1, h2, h3⟩ := hc i f hi
    exact ⟨b, off, hp, hb, h1, h2, h3⟩
theorem CP.at {l : List Cmp} (h : CP w B p l) {i : Nat} {c : Cmp} (hi : l[i]? = some c) : ∃ b off q k, p = some ⟨b, off, none⟩ ∧ b < B ∧ w.cell? ⟨b, off + i * 3, none⟩ = some (.int .i64 c.id) ∧ w.cell? ⟨b, off + i * 3 + 1, none⟩ = some (.string c.name) ∧
    w.cell? ⟨b, off + i * 3 + 2, none⟩ = some (.slice q c.fs.length k) ∧ c.fs.length ≤ k ∧ FP w B q c.fs := by
  rcases h with rfl | ⟨b, off, hp, hb, hc⟩
  · simp at hi
  · obtain ⟨h1, h2, q, k, h3, h4, h5⟩ := hc i c hi
    exact ⟨b, off, q, k, hp, hb, h1, h2, h3, h4, h5⟩
end
end Go.Proofs.Sch

namespace Go.Proofs.YtlhdofkgcbmnnaaGreat
open Go.RowKit Go.Proofs.Heap

def letN (x : Int) : Bool := decide (97 ≤ x) && decide (x ≤ 122)
def digN (x : Int) : Bool := decide (48 ≤ x) && decide (x ≤ 57)
def byteN (s : ByteArray) (i : Nat) : Int := ((s.get! i).toNat : Int)
/-- Whether a text is a name. -/
def nameB (s : ByteArray) : Bool := decide (1 ≤ s.size ∧ s.size ≤ 12 ∧ letN (byteN s 0) = true ∧ ∀ i, i < s.size → (letN (byteN s i) || digN (byteN s i)) = true)

theorem tl_eq (s : ByteArray) : s.toList = s.data.toList := ByteArray.toList_eq s
theorem empty_no {s : ByteArray} (h : s.size ≠ 0) : s.toList.isEmpty = false := by
  rw [tl_eq]
  cases e : s.data.toList with
  | nil => have e2 := congrArg List.length e; rw [Array.length_toList] at e2; exact absurd e2 h
  | cons _ _ => rfl
theorem empty_yes {s : ByteArray} (h : s.size = 0) : s.toList.isEmpty = true := by
  rw [tl_eq]
  cases e : s.data.toList with
  | nil => rfl
  | cons a l => have e2 := congrArg List.length e; rw [Array.length_toList] at e2; exact absurd (h.symm.trans e2) (by simp)
theorem seq_dec (a b : ByteArray) : (a.toList == b.toList) = decide (a = b) := by
  rw [tl_eq, tl_eq]
  by_cases h : a = b
  · subst h; simp
  · have : ¬ a.data.toList = b.data.toList := fun e => h (by cases a; cases b; simp at e; simp [e])
    rw [decide_eq_false h]
    simpa using this
theorem byte_at (s : ByteArray) (i : Nat) (h : i < s.size) : ((s[i]'h).toNat : Int) = byteN s i := by
  unfold byteN
  cases s with
  | mk d => rw [show (ByteArray.mk d).get! i = d[i]'h from getElem!_pos d i h]; rfl
theorem nameB_short {s : ByteArray} (h : s.size = 0 ∨ 12 < s.size) : nameB s = false := decide_eq_false (fun hh => by omega)
theorem nameB_first {s : ByteArray} (h : letN (byteN s 0) = false) : nameB s = false := decide_eq_false (fun hh => by rw [h] at hh; exact Bool.noConfusion hh.2.2.1)
theorem nameB_bad {s : ByteArray} {i : Nat} (hi : i < s.size) (h : (letN (byteN s i) || digN (byteN s i)) = false) : nameB s = false := decide_eq_false (fun hh => by have := hh.2.2.2 i hi; rw [h] at this; cases this)
theorem nameB_good {s : ByteArray} (h1 : 1 ≤ s.size) (h2 : s.size ≤ 12) (h3 : letN (byteN s 0) = true) (h4 : ∀ i, i < s.size → (letN (byteN s i) || digN (byteN s i)) = true) : nameB s = true := decide_eq_true ⟨h1, h2, h3, h4⟩

theorem is_letter (x : Int) (w : World) : Calls Tryz.prog 99 #[.int .u8 x] w fun r w' => r = .returned (.bool (letN x)) ∧ w = w' := by
  go_enter Tryz.func99, Tryz.ntmps99
  unfold letN
  by_cases h1 : (97 : Int) ≤ x
  · have e1 : decide ((97 : Int) ≤ x) = true := decide_eq_true h1
    go_wp2
    go_ret
    exact ⟨by simp [h1], rfl⟩
  · have e1 : decide ((97 : Int) ≤ x) = false := decide_eq_false h1
    go_wp2
    go_ret
    exact ⟨by simp, rfl⟩

set_option maxHeartbeats 1000000 in
theorem is_name (s : ByteArray) (w : World) : Calls Tryz.prog 63 #[.string s] w fun r w' => r = .returned (.bool (nameB s)) ∧ w = w' := by
  go_enter Tryz.func63, Tryz.ntmps63
  by_cases h0 : s.size = 0
  · have e := empty_yes h0
    go_wp2
    go_ret
    exact ⟨by rw [nameB_short (.inl h0)]; rfl, rfl⟩
  have e := empty_no h0
  by_cases h12 : 12 < s.size
  · have e1 : decide ((12 : Int) < (s.size : Int)) = true := decide_eq_true (by omega)
    have e2 : decide (12 < s.size) = true := decide_eq_true h12
    go_wp2
    go_ret
    exact ⟨by rw [nameB_short (.inr h12)]; rfl, rfl⟩
  have e1 : decide ((12 : Int) < (s.size : Int)) = false := decide_eq_false (by omega)
  have e2 : decide (12 < s.size) = false := decide_eq_false h12
  have hb0 := byte_at s 0 (by omega)
  have hi0 : (0 : Int) ≤ 0 ∧ (0 : Int) < (s.size : Int) := ⟨by omega, by omega⟩
  have hi1 : 0 < s.size := by omega
  have HF := hid (fun h => nameB_first (s := s) h)
  go_wp2_with fail
  refine (is_letter _ w).mono ?_
  rintro r w' ⟨rfl, rfl⟩
  clear hb0 hi0
  cases hl0 : letN (byteN s 0)
  · have e3 := HF.out hl0
    clear HF
    go_wp2
    go_ret
    exact ⟨by rw [e3]; rfl, rfl⟩
  clear HF e1 e2 e
  have HL0 := hid hl0
  clear hl0
  go_wp2_with fail
  go_loopw [3, 19] (fun _ i wr => ∃ k : Nat, k ≤ s.size ∧ i = .int .i64 k ∧ w = wr ∧ ∀ j, j < k → (letN (byteN s j) || digN (byteN s j)) = true) (fun _ i _ => s.size + 1 - (intOf i).toNat)
  case atStart => exact ⟨0, by omega, by go_num, rfl, fun j hj => by omega⟩
  case round =>
    obtain ⟨k, hk, rfl, rfl, hall⟩ := hrel
    have HALL := hid hall
    clear hall
    by_cases hlt : k < s.size
    · have hb := byte_at s k hlt
      have hi : (0 : Int) ≤ (k : Int) ∧ (k : Int) < (s.size : Int) := ⟨by omega, by omega⟩
      have HBAD := hid (fun h => nameB_bad (s := s) hlt h)
      have HN : Hid ((letN (byteN s k) || digN (byteN s k)) = true → ∀ j, j < k + 1 → (letN (byteN s j) || digN (byteN s j)) = true) := hid (fun h j hj => by
        by_cases e : j = k
        · rw [e]; exact h
        · exact HALL.out j (by omega))
      go_wp2_with fail
      refine (is_letter _ w).mono ?_
      rintro r w' ⟨rfl, rfl⟩
      cases hl : letN (byteN s k)
      · have hdg : digN (byteN s k) = (decide (48 ≤ byteN s k) && decide (byteN s k ≤ 57)) := rfl
        rw [hl, hdg] at HN HBAD
        clear hdg hl
        generalize byteN s k = x at *
        by_cases h1 : x < 48
        · have f1 : decide (x < 48) = true := decide_eq_true h1
          have f2 := HBAD.out (by rw [decide_eq_false (by omega : ¬ 48 ≤ x)]; rfl)
          clear HN HBAD
          go_wp2
          go_ret
          exact ⟨by first | rfl | (rw [f2]; rfl), rfl⟩
        · have f1 : decide (x < 48) = false := decide_eq_false h1
          by_cases h2 : 57 < x
          · have f3 : decide (57 < x) = true := decide_eq_true h2
            have f2 := HBAD.out (by rw [decide_eq_false (by omega : ¬ x ≤ 57)]; simp)
            clear HN HBAD
            go_wp2
            go_ret
            exact ⟨by first | rfl | (rw [f2]; rfl), rfl⟩
          · have f3 : decide (57 < x) = false := decide_eq_false h2
            have HN2 := hid (HN.out (by rw [decide_eq_true (by omega : 48 ≤ x), decide_eq_true (by omega : x ≤ 57)]; rfl))
            clear HN HBAD
            go_wp2
            go_roundw
            case rel => exact ⟨k + 1, by omega, by go_num, by simp, HN2.out⟩
            case measure => simp [intOf]; omega
      · have HN2 := hid (HN.out (by rw [hl]; rfl))
        clear HN HBAD hl
        go_wp2
        go_roundw
        case rel => exact ⟨k + 1, by omega, by go_num, by simp, HN2.out⟩
        case measure => simp [intOf]; omega
    · have e : k = s.size := by omega
      have e3 := nameB_good (s := s) (by omega) (by omega) HL0.out (fun j hj => HALL.out j (by omega))
      have e4 : decide ((k : Int) < (s.size : Int)) = false := decide_eq_false (by omega)
      have e5 : decide (k < s.size) = false := decide_eq_false hlt
      clear HALL HL0
      go_wp2
      go_ret
      exact ⟨by rw [e3]; rfl, rfl⟩

set_option maxHeartbeats 2000000 in
theorem r_name (s : ByteArray) (w : World) : Calls Tryz.prog 138 #[.string s] w fun r w' => r = .returned (.bool (nameB s)) ∧ w = w' := by
  go_enter Tryz.func138, Tryz.ntmps138
  by_cases h0 : s.size = 0
  · have e1 : decide ((s.size : Int) < 1) = true := decide_eq_true (by omega)
    have e2 : decide (s.size < 1) = true := decide_eq_true (by omega)
    go_wp2
    go_ret
    exact ⟨by rw [nameB_short (.inl h0)]; rfl, rfl⟩
  have e3 : decide ((s.size : Int) < 1) = false := decide_eq_false (by omega)
  have e4 : decide (s.size < 1) = false := decide_eq_false (by omega)
  by_cases h12 : 12 < s.size
  · have e1 : decide ((12 : Int) < (s.size : Int)) = true := decide_eq_true (by omega)
    have e2 : decide (12 < s.size) = true := decide_eq_true h12
    go_wp2
    go_ret
    exact ⟨by rw [nameB_short (.inr h12)]; rfl, rfl⟩
  have e1 : decide ((12 : Int) < (s.size : Int)) = false := decide_eq_false (by omega)
  have e2 : decide (12 < s.size) = false := decide_eq_false h12
  go_wp2_with fail
  clear e1 e2 e3 e4
  go_loopw [3, 4, 5] (fun i _ _ wr => ∃ k : Nat, k ≤ s.size ∧ i = .int .i64 k ∧ w = wr ∧ ∀ j, j < k → (letN (byteN s j) || digN (byteN s j)) = true ∧ (j = 0 → letN (byteN s j) = true)) (fun i _ _ _ => s.size + 1 - (intOf i).toNat)
  case atStart => exact ⟨0, by omega, by go_num, rfl, fun j hj => by omega⟩
  case round =>
    obtain ⟨k, hk, rfl, rfl, hall⟩ := hrel
    have HALL := hid hall
    clear hall
    by_cases hlt : k < s.size
    · have hb := byte_at s k hlt
      have hi : (0 : Int) ≤ (k : Int) ∧ (k : Int) < (s.size : Int) := ⟨by omega, by omega⟩
      have HBAD := hid (fun h => nameB_bad (s := s) hlt h)
      have HBAD0 : Hid (k = 0 → letN (byteN s k) = false → nameB s = false) := hid (fun e h => nameB_first (e ▸ h))
      have HN : Hid ((letN (byteN s k) || digN (byteN s k)) = true → (k = 0 → letN (byteN s k) = true) → ∀ j, j < k + 1 → (letN (byteN s j) || digN (byteN s j)) = true ∧ (j = 0 → letN (byteN s j) = true)) := hid (fun h h0 j hj => by
        by_cases e : j = k
        · subst e; exact ⟨h, h0⟩
        · exact HALL.out j (by omega))
      generalize byteN s k = x at *
      clear HALL
      by_cases c1 : x < 48
      · have g1 : decide (97 ≤ x) = false := decide_eq_false (by omega)
        have g2 : decide (48 ≤ x) = false := decide_eq_false (by omega)
        have f2 := HBAD.out (by simp [letN, digN, g1, g2])
        clear HN HBAD HBAD0
        go_wp2
        go_ret
        exact ⟨by first | rfl | (rw [f2]; rfl), rfl⟩
      by_cases c2 : x ≤ 57
      · have g1 : decide (97 ≤ x) = false := decide_eq_false (by omega)
        have g2 : decide (48 ≤ x) = true := decide_eq_true (by omega)
        have g3 : decide (x ≤ 57) = true := decide_eq_true (by omega)
        by_cases hk0 : k = 0
        · have q1 : ((k : Int) == 0) = true := beq_iff_eq.2 (by omega)
          have q2 : (k == 0) = true := beq_iff_eq.2 hk0
          have f2 := HBAD0.out hk0 (by simp [letN, g1])
          clear hk0
          clear HN HBAD HBAD0
          go_wp2
          go_ret
          exact ⟨by first | rfl | (rw [f2]; rfl), rfl⟩
        · have q1 : ((k : Int) == 0) = false := beq_eq_false_iff_ne.2 (by omega)
          have q2 : (k == 0) = false := beq_eq_false_iff_ne.2 hk0
          have HN2 := hid (HN.out (by simp [letN, digN, g1, g2, g3]) (fun h => absurd h hk0))
          clear hk0
          clear HN HBAD HBAD0
          go_wp2
          go_roundw
          case rel => exact ⟨k + 1, by omega, by go_num, by simp, HN2.out⟩
          case measure => simp [intOf]; omega
      by_cases c3 : x < 97
      · have g1 : decide (97 ≤ x) = false := decide_eq_false (by omega)
        have g2 : decide (48 ≤ x) = true := decide_eq_true (by omega)
        have g3 : decide (x ≤ 57) = false := decide_eq_false (by omega)
        have f2 := HBAD.out (by simp [letN, digN, g1, g2, g3])
        clear HN HBAD HBAD0
        go_wp2
        go_ret
        exact ⟨by first | rfl | (rw [f2]; rfl), rfl⟩
      by_cases c4 : x ≤ 122
      · have g1 : decide (97 ≤ x) = true := decide_eq_true (by omega)
        have g2 : decide (x ≤ 122) = true := decide_eq_true (by omega)
        have g3 : decide (48 ≤ x) = true := decide_eq_true (by omega)
        have g4 : decide (x ≤ 57) = false := decide_eq_false (by omega)
        have HN2 := hid (HN.out (by simp [letN, g1, g2]) (fun _ => by simp [letN, g1, g2]))
        clear HN HBAD HBAD0
        go_wp2
        go_roundw
        case rel => exact ⟨k + 1, by omega, by go_num, by simp, HN2.out⟩
        case measure => simp [intOf]; omega
      · have g1 : decide (97 ≤ x) = true := decide_eq_true (by omega)
        have g2 : decide (x ≤ 122) = false := decide_eq_false (by omega)
        have g3 : decide (48 ≤ x) = true := decide_eq_true (by omega)
        have g4 : decide (x ≤ 57) = false := decide_eq_false (by omega)
        have f2 := HBAD.out (by simp [letN, digN, g1, g2, g3, g4])
        clear HN HBAD HBAD0
        go_wp2
        go_ret
        exact ⟨by first | rfl | (rw [f2]; rfl), rfl⟩
    · have e : k = s.size := by omega
      have e3 := nameB_good (s := s) (by omega) (by omega) ((HALL.out 0 (by omega)).2 rfl) (fun j hj => (HALL.out j (by omega)).1)
      have e4 : decide ((k : Int) < (s.size : Int)) = false := decide_eq_false (by omega)
      have e5 : decide (k < s.size) = false := decide_eq_false hlt
      clear HALL
      go_wp2
      go_ret
      exact ⟨by rw [e3]; rfl, rfl⟩
end Go.Proofs.YtlhdofkgcbmnnaaGreat

namespace Go.Proofs.Heap
open Go.RowKit

theorem results_c {fn : Func} {p : Tmp} {ty : TypeId} (h : fn.results = #[.cell p ty]) (tmps : Array Value) {P : Program} {w : World} {ad : Addr} {v : Value}
    (hp : tmps.getD p undef = .pointer (some ad)) (hl : (loadVar ty ad).run P w = .ok v w) : (results fn tmps).run P w = .ok v w := by
  have hp' : tmps[p]?.getD undef = .pointer (some ad) := by simpa using hp
  simp [results, h, hp', asAddr, hl]
theorem results_ct {fn : Func} {p u : Tmp} {ty : TypeId} (h : fn.results = #[.cell p ty, .tmp u]) (tmps : Array Value) {P : Program} {w : World} {ad : Addr} {v : Value}
    (hp : tmps.getD p undef = .pointer (some ad)) (hl : (loadVar ty ad).run P w = .ok v w) : (results fn tmps).run P w = .ok (.tuple #[v, tmps.getD u undef]) w := by
  have hp' : tmps[p]?.getD undef = .pointer (some ad) := by simpa using hp
  simp [results, h, hp', asAddr, hl]
theorem cells2 {w : World} {b : Nat} {t : TypeId} {v0 v1 : Value} (x0 x1 : Value) (h : w.heap[b]? = some (.cells #[v0, v1] t (0, 0))) :
    ((w.setCell ⟨b, 0, none⟩ x0).setCell ⟨b, 1, none⟩ x1).heap[b]? = some (.cells #[x0, x1] t (0, 0)) := by
  rw [hsc_same (hsc_same h 0 x0) 1 x1]; rfl
theorem cells3 {w : World} {b : Nat} {t : TypeId} {v0 v1 v2 : Value} (x0 x1 x2 : Value) (h : w.heap[b]? = some (.cells #[v0, v1, v2] t (0, 0))) :
    (((w.setCell ⟨b, 0, none⟩ x0).setCell ⟨b, 1, none⟩ x1).setCell ⟨b, 2, none⟩ x2).heap[b]? = some (.cells #[x0, x1, x2] t (0, 0)) := by
  rw [hsc_same (hsc_same (hsc_same h 0 x0) 1 x1) 2 x2]; rfl
theorem owns_mono {w : World} {base b' : Nat} {e : TypeId} {size : Nat} {v : Value} {n : Nat} {xs : List Value} (h : w.ownsRow base e size v n xs) (hb : b' ≤ base) : w.ownsRow b' e size v n xs := by
  obtain ⟨h1, h2⟩ := h
  refine ⟨h1, ?_⟩
  rcases h2 with h2 | ⟨g, cap, cur, h3, h4, h5⟩
  · exact .inl h2
  · exact .inr ⟨g, cap, cur, h3, by omega, h5⟩
/-- A walk that turned only what was new. -/
theorem keep_new {w0 w w' : World} {S : Nat → Prop} (h0 : Keep (fun _ => False) w0 w) (hk : Keep S w w') (hS : ∀ k, S k → w0.heap.size ≤ k) : Keep (fun _ => False) w0 w' :=
  h0.trans' hk (fun i hi h => absurd (hS i h) (by omega))
end Go.Proofs.Heap

namespace Go.Proofs.YtlhdofkgcbmnnaaGreat
open Go.RowKit Go.Proofs.Heap

def kindB (k : Int) : Bool := decide (1 ≤ k ∧ k ≤ 10)
/-- How many bytes an element of a kind has; nought: there is no such kind. -/
def sizeK (k : Int) : Int := if k = 1 ∨ k = 2 ∨ k = 6 then 1 else if k = 3 ∨ k = 7 then 2 else if k = 4 ∨ k = 8 then 4 else if k = 5 ∨ k = 9 ∨ k = 10 then 8 else 0
def signK (k : Int) : Bool := decide (2 ≤ k ∧ k ≤ 5)

theorem is_kind (k : Int) (w : World) : Calls Tryz.prog 108 #[.int .i64 k] w fun r w' => r = .returned (.bool (kindB k)) ∧ w = w' := by
  go_enter Tryz.func108, Tryz.ntmps108
  unfold kindB
  by_cases h1 : (1 : Int) ≤ k
  · have e1 : decide ((1 : Int) ≤ k) = true := decide_eq_true h1
    go_wp2
    go_ret
    exact ⟨by simp [h1], rfl⟩
  · have e1 : decide ((1 : Int) ≤ k) = false := decide_eq_false h1
    go_wp2
    go_ret
    exact ⟨by simp, rfl⟩

theorem shapes_row (w : World) : Calls Tryz.prog 169 #[] w fun r w' => r = .returned (.slice (some ⟨w.heap.size, 0, none⟩) 11 11) ∧ Keep (fun _ => False) w w' ∧ ∀ k : Nat, 1 ≤ k → k ≤ 10 →
    ∃ s, w'.cell? ⟨w.heap.size, k * 3, none⟩ = some (.string s) ∧ w'.cell? ⟨w.heap.size, k * 3 + 1, none⟩ = some (.int .i64 (sizeK k)) ∧ w'.cell? ⟨w.heap.size, k * 3 + 2, none⟩ = some (.bool (signK k)) := by
  go_enter Tryz.func169, Tryz.ntmps169
  go_wp2
  go_ret
  refine ⟨rfl, (Keep.refl _ w).alloc _, fun k h1 h2 => ?_⟩
  have hk : k = 1 ∨ k = 2 ∨ k = 3 ∨ k = 4 ∨ k = 5 ∨ k = 6 ∨ k = 7 ∨ k = 8 ∨ k = 9 ∨ k = 10 := by omega
  rcases hk with rfl | rfl | rfl | rfl | rfl | rfl | rfl | rfl | rfl | rfl
  all_goals exact ⟨_, cell_of (heap_alloc_new w _) (by rfl), cell_of (heap_alloc_new w _) (by rfl), cell_of (heap_alloc_new w _) (by rfl)⟩

theorem kind_of (k : Int) (w : World) : Calls Tryz.prog 118 #[.int .i64 k] w fun r w' => ∃ s, r = .returned (.agg #[.string s, .int .i64 (sizeK k), .bool (signK k)]) ∧ Keep (fun _ => False) w w' := by
  go_enter Tryz.func118, Tryz.ntmps118
  go_wp2_with fail
  have hb := heap_alloc_new w (.cells #[.string ⟨#[]⟩, .int .i64 0, .bool false] 204)
  have hk0 := (Keep.refl (fun _ => False) w).alloc (.cells #[.string ⟨#[]⟩, .int .i64 0, .bool false] 204)
  generalize w.alloc (.cells #[.string ⟨#[]⟩, .int .i64 0, .bool false] 204) = w0 at *
  have HB := hid hb; have HK0 := hid hk0
  generalize hgb : w.heap.size = b at *
  clear hb hk0
  refine (is_kind k _).mono ?_
  rintro r w' ⟨rfl, rfl⟩
  by_cases h : 1 ≤ k ∧ k ≤ 10
  · have e : kindB k = true := decide_eq_true h
    obtain ⟨n, rfl⟩ := Int.eq_ofNat_of_zero_le (a := k) (by omega)
    rw [e]
    clear e
    go_wp2_with fail
    refine (shapes_row _).mono ?_
    rintro r w1 ⟨rfl, hk1, hc⟩
    obtain ⟨s, c0, c1, c2⟩ := hc n (by omega) (by omega)
    have hin : (0 : Int) ≤ (n : Int) ∧ (n : Int) < 11 := ⟨by omega, by omega⟩
    have hb1 := hk1.get HB.out id
    have HK1 := hid (HK0.out.trans hk1); have HB1 := hid hb1
    clear hc hk1 h hb1 HB HK0
    generalize hz : sizeK (n : Int) = z at *
    generalize hg : signK (n : Int) = g at *
    have HZ := hid hz; have HG := hid hg
    clear hz hg
    generalize w0.heap.size = q at *
    have d0 := cell_of HB1.out (i := 0) (by rfl)
    have d1 := cell_of HB1.out (i := 1) (by rfl)
    have d2 := cell_of HB1.out (i := 2) (by rfl)
    have f0 := free_of HB1.out 0
    have f1 := free_of HB1.out 1
    have f2 := free_of HB1.out 2
    go_wp2
    (try simp only [Exit.inBlock, Exit.then])
    refine bodyPost_ret (results_c rfl _ rfl (run_loadVar_row _ b _ 204 _ _ _ (cells3 (.string s) (.int .i64 z) (.bool g) HB1.out) Tryz.underlying204 rfl (by kernel_rfl))) rfl ?_
    exact ⟨s, by rw [HZ.out, HG.out], ((HK1.out.setCell_new (by simp [hgb]) _).setCell_new (by simp [hgb]) _).setCell_new (by simp [hgb]) _⟩
  · have e : kindB k = false := decide_eq_false h
    have e1 : sizeK k = 0 := by unfold sizeK; rw [if_neg (by omega), if_neg (by omega), if_neg (by omega), if_neg (by omega)]
    have e2 : signK k = false := decide_eq_false (by omega)
    rw [e]
    have E1 := hid e1; have E2 := hid e2
    clear e e1 e2 h
    have d0 := cell_of HB.out (i := 0) (by rfl)
    have d1 := cell_of HB.out (i := 1) (by rfl)
    have d2 := cell_of HB.out (i := 2) (by rfl)
    have f0 := free_of HB.out 0
    have f1 := free_of HB.out 1
    have f2 := free_of HB.out 2
    go_wp2
    (try simp only [Exit.inBlock, Exit.then])
    refine bodyPost_ret (results_c rfl _ rfl (run_loadVar_row _ b _ 204 _ _ _ (cells3 (.string ⟨#[]⟩) (.int .i64 0) (.bool false) HB.out) Tryz.underlying204 rfl (by kernel_rfl))) rfl ?_
    exact ⟨⟨#[]⟩, by rw [E1.out, E2.out], ((HK0.out.setCell_new (by simp [hgb]) _).setCell_new (by simp [hgb]) _).setCell_new (by simp [hgb]) _⟩
theorem field_size (s : ByteArray) (z : Int) (g : Bool) (w : World) : (Instr.field 204 (.agg #[.string s, .int .i64 z, .bool g]) 1).run Tryz.prog w = .ok (.int .i64 z) w := by kernel_rfl

set_option maxRecDepth 10000 in
theorem size_of (k : Int) (w : World) : Calls Tryz.prog 80 #[.int .i64 k] w fun r w' => r = .returned (.int .i64 (sizeK k)) ∧ Keep (fun _ => False) w w' := by
  go_enter Tryz.func80, Tryz.ntmps80
  go_wp2_with fail
  refine (kind_of k _).mono ?_
  rintro r w1 ⟨s, rfl, hk⟩
  have hfd := field_size s (sizeK k) (signK k) w1
  have HK := hid hk
  clear hk
  go_wp2
  go_ret
  exact ⟨rfl, HK.out⟩
end Go.Proofs.YtlhdofkgcbmnnaaGreat
