/-
  Ranges over a string: the iterator in whatever block.
-/
import Derived.Test.YtpohopmggpiomaaDoorRow
import Derived.Deep.QuietTactic
import Derived.BigQuiet
import Derived.Test.YtpohopmggpiomaaDoorShelf
import Derived.Shelf.Strings.SlTrimAscii
import Derived.Lib.ConvBytes
namespace Go.Proofs.YtpohopmggpiomaaDoor
open Go.RowKit

/-- The variables of the library that decoding and searching read. -/
def Env (w : World) : Prop := Lib.Utf8Tabs 1 2 w ∧ ∃ m, w.cell? ⟨0, 0, none⟩ = some (.int .i64 m)

/-- The variables' blocks. -/
def envB : List Nat := [1, 2, 0]

theorem Env.keep {w w' : World} (h : Env w) {S : List Nat} (ho : Only S w w') (hS : ∀ k, k ∈ S → k ∉ envB) : Env w' := by
  obtain ⟨⟨h1, h2⟩, m, h3⟩ := h
  have hk : ∀ g, g ∈ envB → g ∉ S := fun g hg hs => hS g hs hg
  refine ⟨⟨fun c hc => ho.cell_some (h1 c hc) (hk _ (by simp [envB])), fun i hi => ⟨ho.cell_some (h2 i hi).1 (hk _ (by simp [envB])), ho.cell_some (h2 i hi).2 (hk _ (by simp [envB]))⟩⟩, m, ho.cell_some h3 (hk _ (by simp [envB]))⟩

theorem Env.keep0 {w w' : World} (h : Env w) (ho : Only [] w w') : Env w' := h.keep ho (by simp)

theorem Env.lt {w : World} (h : Env w) : ∀ g, g ∈ envB → g < w.heap.size := by
  obtain ⟨⟨h1, h2⟩, m, h3⟩ := h
  intro g hg
  simp only [envB, List.mem_cons, List.not_mem_nil, or_false] at hg
  rcases hg with rfl | rfl | rfl
  · exact lt_of_cell (h1 0 (by omega))
  · exact lt_of_cell (h2 0 (by omega)).1
  · exact lt_of_cell h3

/-- 'next' on a string's iterator that lies in block k. -/
theorem next_at {P : Program} (w : World) (k : Nat) (s : ByteArray) (pos : Nat) (h : w.heap[k]? = some (.stringIter s pos)) (hp : pos < s.size) :
    ∃ w', (∀ ty, (Instr.next (.pointer (some ⟨k, 0, none⟩)) true ty).run P w = .ok (.tuple #[.bool true, .int .i64 pos, .int .i32 (Utf8.decode s pos).1]) w') ∧
      w'.heap[k]? = some (.stringIter s (pos + (Utf8.decode s pos).2)) ∧ Only [k] w w' ∧ w'.heap.size = w.heap.size := by
  have hlt := lt_of_block h
  refine ⟨{ w with heap := w.heap.setIfInBounds k (.stringIter s (pos + (Utf8.decode s pos).2)) }, ?_, by simp [hlt], ⟨rfl, rfl, rfl, by simp, fun j hj hn => ?_⟩, by simp⟩
  · intro ty
    have hw : w.heap[k] = .stringIter s pos := by simpa [Array.getElem?_eq_getElem hlt] using h
    simp [Instr.next, getObj, setObj, Sem.run, Result.andThen, hp, goInt, hlt, hw]
  · simp only [List.mem_singleton] at hn
    simp [Ne.symm hn]

theorem next_at_end {P : Program} (w : World) (k : Nat) (s : ByteArray) (pos : Nat) (h : w.heap[k]? = some (.stringIter s pos)) (hp : ¬ pos < s.size) :
    ∀ ty, (Instr.next (.pointer (some ⟨k, 0, none⟩)) true ty).run P w = .ok (.tuple #[.bool false]) w := by
  intro ty
  simp [Instr.next, getObj, Sem.run, h, hp]

/-- A region that draws its order and whose operations leave all that there is as it is (calls may make blocks): one walk of the lexical order. -/
theorem wp_region_only {P : Program} {id : Nat} {Q : Exit → Act → World → Prop} {a : Act} {w : World} {l : List Oper} (W : World) (S : List Nat) (hm : P.follows .mixedOrders = true) (hB : Region.lexB .any l.toArray = true)
    (hw : Only S W w) (h : wpQuiet P l.toArray (fun w' => Only S W w') (fun a' => ∀ w', Only S W w' → Q .normal a' w') l a) : (Code.region id l.toArray true).wp P Q a w :=
  wp_region_quiet (C := fun w' => Only S W w') hm hB ⟨hw.os, hw.tape, hw.output, hw.size, hw.block⟩ (by simpa using h)

/-- []byte(s) of a string that is no constant. -/
theorem conv_str (l : List UInt8) (hl : l.length ≤ maxLen) (w : World) :
    ∃ c w', (convert 9 22 (.string ⟨l.toArray⟩)).run Tryd.prog w = .ok (.slice (some ⟨w.heap.size, 0, none⟩) l.length c) w' ∧ Only [] w w' ∧ BytesV w' (.slice (some ⟨w.heap.size, 0, none⟩) l.length c) l := by
  have h := Lib.run_convert_string_bytes (P := Tryd.prog) w 9 22 5 ⟨l.toArray⟩ Tryd.underlying9 Tryd.underlying22 Tryd.underlying5
  have hsz : (⟨l.toArray⟩ : ByteArray).size = l.length := by simp [ByteArray.size]
  rw [hsz] at h
  have hge := grownCap_ge w l.length 0 5
  refine ⟨_, _, h, ⟨rfl, rfl, rfl, ?_, fun k hk _ => Lib.bytesWorld_at_old w _ _ k hk⟩, ⟨_, _, rfl, hge, grownCap_le_maxLen w l.length 0 _ hl, fun _ => ⟨_, 0, rfl, fun k hk => ?_⟩⟩⟩
  · rw [Lib.bytesWorld_size]; omega
  · rw [Nat.zero_add, Lib.bytesWorld_cell w _ _ k (by rw [hsz]; exact hk)]
    rfl

end Go.Proofs.YtpohopmggpiomaaDoor
