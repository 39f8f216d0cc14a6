/-
  Shared words for the walks over this seat: what a call may turn in memory ('Only'), blocks of cells, labels of a sheet.
-/
import Derived.Test.YtfbbieecdenlbaaGreatDoorProg
import Derived.WalkKit
import Derived.WalkSpells
import Derived.WalkLawsBesides
import Derived.OneCell
import Derived.Lib.Hide
namespace Go.Proofs.YtfbbieecdenlbaaGreatDoor
open Go.RowKit

/-- From w to w' at most the blocks of S have turned; new ones may have come. -/
structure Only (S : List Nat) (w w' : World) : Prop where
  os : w'.os = w.os
  tape : w'.tape = w.tape
  output : w'.output = w.output
  size : w.heap.size ≤ w'.heap.size
  block : ∀ k, k < w.heap.size → k ∉ S → w'.heap[k]? = w.heap[k]?

theorem Only.refl (S : List Nat) (w : World) : Only S w w := ⟨rfl, rfl, rfl, Nat.le_refl _, fun _ _ _ => rfl⟩

theorem Only.trans {S : List Nat} {a b c : World} (h : Only S a b) (k : Only S b c) : Only S a c :=
  ⟨k.os.trans h.os, k.tape.trans h.tape, k.output.trans h.output, Nat.le_trans h.size k.size, fun i hi hn => (k.block i (Nat.lt_of_lt_of_le hi h.size) hn).trans (h.block i hi hn)⟩

theorem Only.mono {S S' : List Nat} {a b : World} (h : Only S a b) (hs : ∀ k, k ∈ S → k ∈ S') : Only S' a b :=
  ⟨h.os, h.tape, h.output, h.size, fun i hi hn => h.block i hi (fun e => hn (hs i e))⟩

/-- A block of S that is new to a counts for nothing. -/
theorem Only.drop {S S' : List Nat} {a b : World} (h : Only S a b) (hs : ∀ k, k ∈ S → k ∈ S' ∨ a.heap.size ≤ k) : Only S' a b :=
  ⟨h.os, h.tape, h.output, h.size, fun i hi hn => h.block i hi (fun e => (hs i e).elim hn (fun h' => by omega))⟩

theorem Only.trans' {S : List Nat} {a b c : World} (h : Only S a b) {T : List Nat} (k : Only T b c) (hs : ∀ i, i ∈ T → i ∈ S ∨ a.heap.size ≤ i) : Only S a c :=
  ⟨k.os.trans h.os, k.tape.trans h.tape, k.output.trans h.output, Nat.le_trans h.size k.size, fun i hi hn =>
    (k.block i (Nat.lt_of_lt_of_le hi h.size) (fun e => (hs i e).elim hn (fun h' => by omega))).trans (h.block i hi hn)⟩

theorem Only.of_below {B : Nat} {S : List Nat} {w w' : World} (h : Below B w w') (hB : w.heap.size ≤ B) : Only S w w' :=
  ⟨h.os, h.tape, h.output, h.size, fun k hk _ => h.block k (by omega)⟩

theorem Only.below {w w' : World} (h : Only [] w w') : Below w.heap.size w w' :=
  ⟨h.os, h.tape, h.output, h.size, fun k hk => h.block k hk (by simp)⟩

theorem Only.below_of {S : List Nat} {w w' : World} (h : Only S w w') {B : Nat} (hB : B ≤ w.heap.size) (hS : ∀ k, k ∈ S → B ≤ k) : Below B w w' :=
  ⟨h.os, h.tape, h.output, h.size, fun k hk => h.block k (by omega) (fun e => by have := hS k e; omega)⟩

theorem Only.drew {S : List Nat} {a w : World} (h : Only S a w) : Only S a w.drew := ⟨h.os, h.tape, h.output, h.size, h.block⟩
theorem Only.drewN {S : List Nat} {a w : World} (h : Only S a w) (n : Nat) : Only S a (w.drewN n) := ⟨h.os, h.tape, h.output, h.size, h.block⟩

theorem Only.alloc {S : List Nat} {a w : World} (h : Only S a w) (o : Obj) : Only S a (w.alloc o) :=
  h.trans ⟨rfl, rfl, rfl, by simp, fun k hk _ => Below.heap_alloc _ _ _ hk⟩

theorem Only.setCell {S : List Nat} {a w : World} (h : Only S a w) {p : Addr} (hp : p.block ∈ S ∨ a.heap.size ≤ p.block) (u : Value) : Only S a (w.setCell p u) :=
  h.trans' (T := [p.block]) ⟨rfl, rfl, rfl, by simp [World.setCell], fun k _ hn => Below.heap_setCell _ _ _ _ (by simpa using hn)⟩ (by simpa using hp)

theorem Only.grown {S : List Nat} {a w w' : World} {row : Option Nat} (h : Only S a w) (hg : w.grownBy w' row) (hr : ∀ k, row = some k → k ∈ S ∨ a.heap.size ≤ k) : Only S a w' :=
  h.trans' (T := row.toList) ⟨hg.os, hg.tape, hg.output, hg.size, fun k hk hn => hg.block k hk (fun e => hn (by simp [← e]))⟩ (by intro i hi; exact hr i (by simpa using hi))

/-- A block that the call did not turn stands. -/
theorem Only.keep {S : List Nat} {w w' : World} (h : Only S w w') {b : Nat} {o : Obj} (hb : w.heap[b]? = some o) (hn : b ∉ S) : w'.heap[b]? = some o := by
  rw [h.block b (lt_of_block hb) hn]; exact hb

theorem Only.cell {S : List Nat} {w w' : World} (h : Only S w w') {p : Addr} (hp : p.block < w.heap.size) (hn : p.block ∉ S) : w'.cell? p = w.cell? p :=
  World.cell?_of_block (w := w) (h.block p.block hp hn)

theorem lt_of_cell {w : World} {p : Addr} {v : Value} (h : w.cell? p = some v) : p.block < w.heap.size := by
  unfold World.cell? at h
  split at h
  · rename_i hb; exact lt_of_block hb
  · cases h

theorem Only.cell_some {S : List Nat} {w w' : World} (h : Only S w w') {p : Addr} {v : Value} (hc : w.cell? p = some v) (hn : p.block ∉ S) : w'.cell? p = some v :=
  (h.cell (lt_of_cell hc) hn).trans hc

/-- A cell of a block that is known whole. -/
theorem cell_blk {w : World} {b : Nat} {cs : Array Value} {t : TypeId} {f : Nat × Nat} (h : w.heap[b]? = some (.cells cs t f)) (o : Nat) : w.cell? ⟨b, o, none⟩ = cs[o]? := by
  simp [World.cell?, h]

theorem free_blk {w : World} {b : Nat} {cs : Array Value} {t : TypeId} (h : w.heap[b]? = some (.cells cs t (0, 0))) (o : Nat) : w.frozen? ⟨b, o, none⟩ = false := by
  simp [World.frozen?, h]

theorem setCell_blk {w : World} {b : Nat} {cs : Array Value} {t : TypeId} {f : Nat × Nat} (h : w.heap[b]? = some (.cells cs t f)) (o : Nat) (v : Value) :
    (w.setCell ⟨b, o, none⟩ v).heap[b]? = some (.cells (cs.setIfInBounds o v) t f) := by
  have hlt := lt_of_block h
  have h' : w.heap[b] = .cells cs t f := by simpa [Array.getElem?_eq_getElem hlt] using h
  show (w.heap.modify b _)[b]? = _
  rw [Array.getElem?_eq_getElem (by simpa using hlt), Array.getElem_modify_self, h']
  rfl

theorem setCell_blk_other {w : World} {b : Nat} {p : Addr} {v : Value} (hb : b ≠ p.block) : (w.setCell p v).heap[b]? = w.heap[b]? := Below.heap_setCell _ _ _ _ hb

theorem alloc_blk {w : World} {b : Nat} {o o' : Obj} (h : w.heap[b]? = some o) : (w.alloc o').heap[b]? = some o := by
  rw [Below.heap_alloc _ _ _ (lt_of_block h)]; exact h

theorem alloc_new (w : World) (o : Obj) : (w.alloc o).heap[w.heap.size]? = some o := by
  show (w.heap.push o)[w.heap.size]? = _
  simp

/-- A list of numbers of one kind, as cells. -/
def intCells (k : IntKind) (l : List Int) : Array Value := (l.map (Value.int k)).toArray

theorem size_intCells (k : IntKind) (l : List Int) : (intCells k l).size = l.length := by simp [intCells]

/-- The number at a place; 0: there is none. (A name of its own: the walk leaves it as it is.) -/
def nth (l : List Int) (i : Nat) : Int := l.getD i 0

theorem nth_lt {l : List Int} {i : Nat} (h : i < l.length) : nth l i = l[i] := by simp [nth, h]

theorem intCells_get (k : IntKind) (l : List Int) (i : Nat) (h : i < l.length) : (intCells k l)[i]? = some (.int k (nth l i)) := by
  simp [intCells, nth, h]

theorem intCells_set (k : IntKind) (l : List Int) (i : Nat) (x : Int) : (intCells k l).setIfInBounds i (.int k x) = intCells k (l.set i x) := by
  simp [intCells, List.map_set]

theorem madeCells_one (z : Value) (n : Nat) : madeCells #[z] n = (List.replicate n z).toArray := by
  apply Array.ext
  · simp [madeCells]
  · intro i h1 h2
    simp [madeCells, Nat.mod_one]

theorem alloc_new' {w : World} {b : Nat} (o : Obj) (h : b = w.heap.size) : (w.alloc o).heap[b]? = some o := by subst h; exact alloc_new w o

/-- The byte at a place, as a number. -/
def bt (l : List UInt8) (k : Nat) : Int := ((l.getD k 0).toNat : Int)

theorem bt_range (l : List UInt8) (k : Nat) : 0 ≤ bt l k ∧ bt l k ≤ 255 := by
  unfold bt
  have := (l.getD k 0).toNat_lt
  omega

theorem bt_str {s : ByteArray} {k : Nat} (h : k < s.size) : ((s[k].toNat : Nat) : Int) = bt s.data.toList k := by
  have hk : k < s.data.toList.length := by simpa using h
  unfold bt
  rw [List.getD_eq_getElem?_getD, List.getElem?_eq_getElem hk]
  rfl

/-- A string's value. -/
abbrev sv (l : List UInt8) : Value := .string ⟨l.toArray⟩

/-- A slice of bytes that reads as l. -/
def BytesV (w : World) (v : Value) (l : List UInt8) : Prop :=
  ∃ p c, v = .slice p l.length c ∧ l.length ≤ c ∧ c ≤ maxLen ∧ (0 < l.length → ∃ b o, p = some ⟨b, o, none⟩ ∧ ∀ k, k < l.length → w.cell? ⟨b, o + k, none⟩ = some (.int .u8 (bt l k)))

theorem BytesV.keep {w w' : World} {v : Value} {l : List UInt8} (h : BytesV w v l) (hc : ∀ p x, w.cell? p = some x → w'.cell? p = some x) : BytesV w' v l := by
  obtain ⟨p, c, h1, h2, h3, h4⟩ := h
  refine ⟨p, c, h1, h2, h3, fun hp => ?_⟩
  obtain ⟨b, o, e, hk⟩ := h4 hp
  exact ⟨b, o, e, fun k hk' => hc _ _ (hk k hk')⟩

/-- The cells of bytes. -/
def byteRow (l : List UInt8) : List Value := l.map fun b => .int .u8 (b.toNat : Int)

theorem byteRow_length (l : List UInt8) : (byteRow l).length = l.length := by simp [byteRow]

theorem byteRow_get (l : List UInt8) (k : Nat) (h : k < l.length) : (byteRow l)[k]? = some (.int .u8 (bt l k)) := by
  simp [byteRow, bt, h]

theorem byteRow_one (l : List UInt8) : ∀ u ∈ byteRow l, u.oneCell' = true := by
  intro u hu
  obtain ⟨b, _, rfl⟩ := List.mem_map.1 hu
  rfl

theorem alloc_old2 (w : World) (o o' : Obj) (k : Nat) (h : k < w.heap.size) : ((w.alloc o).alloc o').heap[k]? = w.heap[k]? := by
  rw [Below.heap_alloc _ _ _ (by simp; omega), Below.heap_alloc _ _ _ h]

theorem ret_int {k : IntKind} {a b : Int} (h : a = b) : Ending.returned (.int k a) = Ending.returned (.int k b) := by rw [h]
theorem ret_str {a b : ByteArray} (h : a = b) : Ending.returned (.string a) = Ending.returned (.string b) := by rw [h]
theorem ret_bool {a b : Bool} (h : a = b) : Ending.returned (.bool a) = Ending.returned (.bool b) := by rw [h]

/-- A block of two cells: what it holds, that it may be written. -/
theorem two_blk {w : World} {b : Nat} {x y : Value} {t : TypeId} (h : w.heap[b]? = some (.cells #[x, y] t (0, 0))) :
    w.cell? ⟨b, 0, none⟩ = some x ∧ w.cell? ⟨b, 0 + 1, none⟩ = some y ∧ w.frozen? ⟨b, 0, none⟩ = false ∧ w.frozen? ⟨b, 0 + 1, none⟩ = false :=
  ⟨by rw [cell_blk h]; rfl, by rw [cell_blk h]; rfl, free_blk h _, free_blk h _⟩

theorem Only.cell_alloc {S : List Nat} {w w' : World} {o : Obj} (h : Only S (w.alloc o) w') {p : Addr} {v : Value} (hc : w.cell? p = some v) (hn : p.block ∉ S) : w'.cell? p = some v :=
  h.cell_some (by rw [World.cell?_of_block (w := w) (Below.heap_alloc _ _ _ (lt_of_cell hc))]; exact hc) hn

/-- What a call that returns an int, a bool, a string .. leaves: a name for the walk's end. -/
def Gives (v : Value) (R : World → Prop) (e : Ending) (w' : World) : Prop := e = .returned v ∧ R w'

end Go.Proofs.YtfbbieecdenlbaaGreatDoor
