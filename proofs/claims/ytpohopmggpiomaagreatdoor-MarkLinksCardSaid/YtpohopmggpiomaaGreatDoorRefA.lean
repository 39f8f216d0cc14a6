/-
  redpenref10: labels, a place in a text, blanks at its end, brackets.
-/
import Derived.Test.YtpohopmggpiomaaGreatDoorSegs
namespace Go.Proofs.YtpohopmggpiomaaGreatDoor
open Go.RowKit

/-- Labels in block bl. -/
def LabAt (w : World) (bl : Nat) (L : List Int) : Prop := L.length ≤ 65536 ∧ w.heap[bl]? = some (.cells (intCells .u8 L) 28 (0, 0))

theorem LabAt.keep {w w' : World} {bl : Nat} {L : List Int} {S : List Nat} (h : LabAt w bl L) (ho : Only S w w') (h2 : bl ∉ S) : LabAt w' bl L := ⟨h.1, ho.keep h.2 h2⟩

abbrev labV (bl : Nat) (L : List Int) : Value := .slice (some ⟨bl, 0, none⟩) L.length L.length

set_option maxHeartbeats 400000 in
theorem all_any (n : Nat) (w : World) (hn : (n : Int) ≤ 65536) :
    Calls Tryz.prog 17 #[.int .i64 n, .int .u8 1] w fun e w' => ∃ bl, e = .returned (.slice (some ⟨bl, 0, none⟩) n n) ∧ Only [] w w' ∧ w.heap.size ≤ bl ∧ LabAt w' bl (List.replicate n 1) := by
  have hinfo : (Tryz.prog.info? 28).map (fun i => (i.zero, i.size, i.bytes)) = some (some (.int .u8 0), 1, 1) := by kernel_rfl
  obtain ⟨i0, hi, hz0, hz1, hz2⟩ := info_parts hinfo
  have hmk : ∀ w : World, (Instr.makeSlice 35 (.int .i64 n) (.int .i64 n)).run Tryz.prog w = .ok (.slice (some ⟨w.heap.size, 0, none⟩) n n) (w.alloc (.cells (intCells .u8 (List.replicate n 0)) 28)) := by
    intro w
    rw [run_make w _ _ i0 _ Tryz.underlying35 hi hz0 _ _ _ _ (by omega) (by omega) (by rw [hz2]; omega) (by omega)]
    simp only [Value.cells, hz1, Nat.mul_one, Int.toNat_natCast, madeCells_one, intCells, List.map_replicate]
  clear hinfo hi hz0 hz1 hz2
  have HN := Lib.hid hn
  go_enter Tryz.func17, Tryz.ntmps17
  go_wp2
  go_loopw [6] (fun i wr => ∃ k : Nat, k ≤ n ∧ i = .int .i64 k ∧ Only [] w wr ∧ wr.heap[w.heap.size]? = some (.cells (intCells .u8 (putR (List.replicate n 0) 0 k 1)) 28 (0, 0))) (fun i _ => n - (intOf i).toNat)
  case atStart => exact ⟨0, by omega, rfl, (Only.refl [] w).alloc _, by rw [putR_nil _ _ _ _ (by omega)]; exact alloc_new _ _⟩
  case round =>
    obtain ⟨k, hk, rfl, ho, hbk⟩ := hrel
    by_cases hlt : k < n
    · have hc : wr.cell? ⟨w.heap.size, k, none⟩ = some (.int .u8 (nth (putR (List.replicate n 0) 0 k 1) k)) := by
        rw [cell_blk hbk, intCells_get _ _ _ (by rw [putR_length, List.length_replicate]; omega)]
      have hf := free_blk hbk k
      go_wp2
      go_roundw
      case rel => exact ⟨k + 1, by omega, by go_num, ho.setCell (.inr (Nat.le_refl _)) _, by rw [setCell_blk hbk, intCells_set, ← putR_succ _ _ _ _ (by omega)]⟩
      case measure => simp [intOf]; omega
    · obtain rfl : k = n := by omega
      go_wp2
      go_ret
      refine ⟨w.heap.size, rfl, ho, Nat.le_refl _, by rw [List.length_replicate]; have := HN.out; omega, ?_⟩
      rw [hbk]
      congr 3
      apply List.ext_getElem (by simp [putR])
      intro j h1 h2
      have : j < k := by simpa using h2
      simp [putR, this]

set_option maxHeartbeats 400000 in
theorem put_any (bl : Nat) (x : Int) (i j : Nat) (L : List Int) (w : World) (h : LabAt w bl L) (hi : (i : Int) ≤ 4611686018427387904) (hj : (j : Int) ≤ 4611686018427387904) :
    Calls Tryz.prog 20 #[labV bl L, .int .u8 x, .int .i64 i, .int .i64 j] w fun e w' => e = .returned (.tuple #[]) ∧ Only [bl] w w' ∧ LabAt w' bl (putR L i j x) := by
  obtain ⟨hlen, hb⟩ := h
  have hL : (L.length : Int) ≤ 65536 := by omega
  have HL := Lib.hid hlen
  clear hlen
  go_enter Tryz.func20, Tryz.ntmps20
  go_wp2
  go_loopw [8] (fun v wr => ∃ k : Nat, i ≤ k ∧ (k ≤ i ∨ k ≤ j ∧ k ≤ L.length) ∧ v = .int .i64 k ∧ Only [bl] w wr ∧ wr.heap[bl]? = some (.cells (intCells .u8 (putR L i k x)) 28 (0, 0))) (fun v _ => L.length - (intOf v).toNat)
  case atStart => exact ⟨i, by omega, by omega, rfl, Only.refl _ _, by rw [putR_nil _ _ _ _ (by omega)]; exact hb⟩
  case round =>
    obtain ⟨k, hk1, hk2, rfl, ho, hbk⟩ := hrel
    by_cases hlt : k < j
    · by_cases hlt2 : k < L.length
      · have hc : wr.cell? ⟨bl, k, none⟩ = some (.int .u8 (nth (putR L i k x) k)) := by
          rw [cell_blk hbk, intCells_get _ _ _ (by rw [putR_length]; omega)]
        have hf := free_blk hbk k
        go_wp2
        go_roundw
        case rel => exact ⟨k + 1, by omega, by omega, by go_num, ho.setCell (by simp) _, by rw [setCell_blk hbk, intCells_set, ← putR_succ _ _ _ _ (by omega)]⟩
        case measure => simp [intOf]; omega
      · go_wp2
        go_end0
        refine ⟨rfl, ho, by rw [putR_length]; exact HL.out, ?_⟩
        rw [hbk]
        by_cases e : k ≤ i
        · obtain rfl : k = i := by omega
          rw [putR_nil _ _ _ _ (by omega), putR_clip L k j x (by omega), putR_nil _ _ _ _ (by omega)]
        · obtain rfl : k = L.length := by omega
          rw [putR_clip L i j x (by omega)]
    · go_wp2
      go_end0
      refine ⟨rfl, ho, by rw [putR_length]; exact HL.out, ?_⟩
      rw [hbk]
      by_cases e : k ≤ i
      · obtain rfl : k = i := by omega
        rw [putR_nil _ _ _ _ (by omega), putR_nil _ _ _ _ (by omega)]
      · obtain rfl : k = j := by omega
        rfl

/-- Does a text stand at a place? -/
def atL (l : List UInt8) (i : Nat) (t : List UInt8) : Bool := decide (i + t.length ≤ l.length) && decide ((l.drop i).take t.length = t)

end Go.Proofs.YtpohopmggpiomaaGreatDoor
