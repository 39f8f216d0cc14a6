/-
  label: what each call does.
-/
import Derived.Test.YtfbbieecdenlbaaGreatDoorBase
import Derived.Deep.QuietTactic
import Derived.BigQuiet
namespace Go.Proofs.YtfbbieecdenlbaaGreatDoor
open Go.RowKit

/-- Numbers from i on, ahead of j, are x. -/
def putR (l : List Int) (i j : Nat) (x : Int) : List Int := l.mapIdx fun k y => if i ≤ k ∧ k < j then x else y

theorem putR_length (l : List Int) (i j : Nat) (x : Int) : (putR l i j x).length = l.length := by simp [putR]

theorem putR_get (l : List Int) (i j : Nat) (x : Int) (k : Nat) (h : k < l.length) : nth (putR l i j x) k = if i ≤ k ∧ k < j then x else nth l k := by
  simp [putR, nth, h]

theorem putR_nil (l : List Int) (i j : Nat) (x : Int) (h : j ≤ i) : putR l i j x = l := by
  apply List.ext_getElem (by simp [putR])
  intro k h1 h2
  simp [putR]; intro a b; omega

theorem putR_succ (l : List Int) (i j : Nat) (x : Int) (h : i ≤ j) : putR l i (j + 1) x = (putR l i j x).set j x := by
  apply List.ext_getElem (by simp [putR])
  intro k h1 h2
  simp only [putR, List.getElem_mapIdx, List.getElem_set]
  by_cases e : j = k
  · subst e; simp [h]
  · rw [if_neg e]
    by_cases h' : i ≤ k ∧ k < j
    · rw [if_pos h', if_pos (by omega)]
    · rw [if_neg h', if_neg (by omega)]

set_option maxHeartbeats 400000 in
theorem fill_any (b o n c : Nat) (x : Int) (l : List Int) (w : World) (hb : w.heap[b]? = some (.cells (intCells .u8 l) 155 (0, 0))) (hl : o + n ≤ l.length) (hn : n ≤ maxLen) :
    Calls Tryz.prog 124 #[.slice (some ⟨b, o, none⟩) n c, .int .u8 x] w fun e w' => e = .returned (.tuple #[]) ∧ Only [b] w w' ∧ w'.heap[b]? = some (.cells (intCells .u8 (putR l o (o + n) x)) 155 (0, 0)) := by
  unfold maxLen at hn
  go_enter Tryz.func124, Tryz.ntmps124
  go_wp2
  go_loopw [4, 7] (fun _ i wr => ∃ k : Nat, k ≤ n ∧ i = .int .i64 k ∧ Only [b] w wr ∧ wr.heap[b]? = some (.cells (intCells .u8 (putR l o (o + k) x)) 155 (0, 0))) (fun _ i _ => n - (intOf i).toNat)
  case atStart => exact ⟨0, by omega, rfl, Only.refl _ _, by rw [putR_nil _ _ _ _ (by omega)]; exact hb⟩
  case round =>
    obtain ⟨k, hk, rfl, ho, hbk⟩ := hrel
    by_cases hlt : k < n
    · have hc : wr.cell? ⟨b, o + k, none⟩ = some (.int .u8 (nth (putR l o (o + k) x) (o + k))) := by
        rw [cell_blk hbk, intCells_get _ _ _ (by rw [putR_length]; omega)]
      have hf := free_blk hbk (o + k)
      go_wp2
      go_roundw
      case rel => exact ⟨k + 1, by omega, by go_num, ho.setCell (by simp) _, by rw [setCell_blk hbk, intCells_set, ← putR_succ _ _ _ _ (by omega)]; rfl⟩
      case measure => simp [intOf]; omega
    · obtain rfl : k = n := by omega
      go_wp2
      go_end0
      exact ⟨rfl, ho, hbk⟩

set_option maxHeartbeats 400000 in
theorem new_ok (n : Nat) (w : World) (hn : (n : Int) ≤ 65536) :
    Calls Tryz.prog 95 #[.int .i64 n] w fun e w' => ∃ bs bl, e = .returned (.tuple #[.pointer (some ⟨bs, 0, none⟩), .int .i64 0]) ∧ Only [] w w' ∧ w.heap.size ≤ bs ∧ w.heap.size ≤ bl ∧ bs ≠ bl ∧ w'.heap[bs]? = some (.cells #[.slice (some ⟨bl, 0, none⟩) n n] 209 (0, 0)) ∧ w'.heap[bl]? = some (.cells (intCells .u8 (List.replicate n 1)) 155 (0, 0)) := by
  have hinfo : (Tryz.prog.info? 155).map (fun i => (i.zero, i.size, i.bytes)) = some (some (.int .u8 0), 1, 1) := by kernel_rfl
  obtain ⟨i0, hi, hz0, hz1, hz2⟩ := info_parts hinfo
  have hmk : ∀ w : World, (Instr.makeSlice 207 (.int .i64 n) (.int .i64 n)).run Tryz.prog w = .ok (.slice (some ⟨w.heap.size, 0, none⟩) n n) (w.alloc (.cells (intCells .u8 (List.replicate n 0)) 155)) := by
    intro w
    rw [run_make w _ _ i0 _ Tryz.underlying207 hi hz0 _ _ _ _ (by omega) (by omega) (by rw [hz2]; omega) (by omega)]
    simp only [Value.cells, hz1, Nat.mul_one, Int.toNat_natCast, madeCells_one, intCells, List.map_replicate]
  clear hinfo hi hz0 hz1 hz2
  have HN := Lib.hid hn
  clear hn
  have HM : Hid (n ≤ maxLen) := by have := HN.out; show n ≤ maxLen; unfold maxLen; omega
  go_enter Tryz.func95, Tryz.ntmps95
  go_wp2_with (go_at_call 124; refine (fill_any _ 0 n n 1 (List.replicate n 0) _ (alloc_blk (alloc_new _ _)) (by simp) HM.out).mono ?_; rintro e w1 ⟨rfl, ho, hb⟩)
  · have := HN.out; omega
  · go_ret2
    have hp : putR (List.replicate n 0) 0 (0 + n) 1 = List.replicate n 1 := by
      apply List.ext_getElem (by simp [putR])
      intro k h1 h2
      have : k < n := by simpa using h2
      simp [putR, this]
    rw [hp] at hb
    refine ⟨w.heap.size + 1, w.heap.size, rfl, ?_, by omega, by omega, by omega, ?_, hb⟩
    · exact (((Only.refl [] w).alloc _).alloc _).trans' ho (by simp)
    · exact ho.keep (alloc_new' _ (by simp)) (by simp)

theorem putR_clip (l : List Int) (i j : Nat) (x : Int) (h : l.length ≤ j) : putR l i j x = putR l i l.length x := by
  apply List.ext_getElem (by simp [putR])
  intro k h1 h2
  have : k < l.length := by simpa [putR] using h1
  simp only [putR, List.getElem_mapIdx]
  by_cases e : i ≤ k
  · rw [if_pos ⟨e, by omega⟩, if_pos ⟨e, by omega⟩]
  · rw [if_neg (by omega), if_neg (by omega)]

/-- A sheet at block bs, its labels in block bl. -/
def SheetAt (w : World) (bs bl : Nat) (l : List Int) : Prop :=
  bs ≠ bl ∧ l.length ≤ 65536 ∧ w.heap[bs]? = some (.cells #[.slice (some ⟨bl, 0, none⟩) l.length l.length] 209 (0, 0)) ∧ w.heap[bl]? = some (.cells (intCells .u8 l) 155 (0, 0))

theorem SheetAt.keep {w w' : World} {bs bl : Nat} {l : List Int} {S : List Nat} (h : SheetAt w bs bl l) (ho : Only S w w') (h1 : bs ∉ S) (h2 : bl ∉ S) : SheetAt w' bs bl l :=
  ⟨h.1, h.2.1, ho.keep h.2.2.1 h1, ho.keep h.2.2.2 h2⟩

set_option maxHeartbeats 400000 in
theorem set_any (bs bl : Nat) (x : Int) (i j : Nat) (l : List Int) (w : World) (h : SheetAt w bs bl l) (hi : (i : Int) ≤ 9223372036854775807) (hj : (j : Int) ≤ 9223372036854775807) :
    Calls Tryz.prog 131 #[.pointer (some ⟨bs, 0, none⟩), .int .u8 x, .int .i64 i, .int .i64 j] w fun e w' => e = .returned (.tuple #[]) ∧ Only [bl] w w' ∧ SheetAt w' bs bl (putR l i j x) := by
  obtain ⟨hne, hlen, hs, hl⟩ := h
  have hc := cell_blk hs 0
  have hc' : w.cell? ⟨bs, 0, none⟩ = some (.slice (some ⟨bl, 0, none⟩) l.length l.length) := by rw [hc]; rfl
  clear hc
  have HL := Lib.hid hlen
  clear hlen
  have hend : ∀ m, m ≤ l.length → i ≤ m → (l.length < j ∧ m = l.length ∨ m = j) → putR l i (i + (m - i)) x = putR l i j x := by
    intro m hm him h
    rw [show i + (m - i) = m by omega]
    rcases h with ⟨h, rfl⟩ | rfl
    · rw [putR_clip l i j x (by omega)]
    · rfl
  have HE := Lib.hid hend
  clear hend
  by_cases hjl : l.length < j
  · by_cases hij : i < l.length
    all_goals
      go_enter Tryz.func131, Tryz.ntmps131
      go_wp2
      go_quiet (fail)
      go_wp2_with (go_at_call 124; refine (fill_any bl i (l.length - i) (l.length - i) x l (w.drewN nq) hl (by omega) (by have := HL.out; unfold maxLen; omega)).mono ?_; rintro e w1 ⟨rfl, ho, hb⟩)
      go_end0
    · refine ⟨rfl, (Only.drewN (Only.refl _ w) nq).trans ho, hne, by rw [putR_length]; exact HL.out, ?_, ?_⟩
      · rw [putR_length]; exact ho.keep hs (by simpa using hne)
      · rw [← HE.out _ (by omega) (by omega) (.inl ⟨hjl, rfl⟩)]; exact hb
    · rw [putR_clip l i j x (by omega), putR_nil _ _ _ _ (by omega)]
      exact ⟨rfl, Only.drewN (Only.refl _ w) nq, hne, HL.out, hs, hl⟩
  · by_cases hij : i < j
    all_goals
      go_enter Tryz.func131, Tryz.ntmps131
      go_wp2
      go_quiet (fail)
      go_wp2_with (go_at_call 124; refine (fill_any bl i (j - i) (l.length - i) x l (w.drewN nq) hl (by omega) (by have := HL.out; unfold maxLen; omega)).mono ?_; rintro e w1 ⟨rfl, ho, hb⟩)
      go_end0
    · refine ⟨rfl, (Only.drewN (Only.refl _ w) nq).trans ho, hne, by rw [putR_length]; exact HL.out, ?_, ?_⟩
      · rw [putR_length]; exact ho.keep hs (by simpa using hne)
      · rw [← HE.out j (by omega) (by omega) (.inr rfl)]; exact hb
    · rw [putR_nil _ _ _ _ (by omega)]
      exact ⟨rfl, Only.drewN (Only.refl _ w) nq, hne, HL.out, hs, hl⟩

set_option maxHeartbeats 400000 in
theorem len_any (bs bl : Nat) (l : List Int) (w : World) (h : SheetAt w bs bl l) :
    Calls Tryz.prog 102 #[.pointer (some ⟨bs, 0, none⟩)] w fun e w' => e = .returned (.int .i64 l.length) ∧ w = w' := by
  obtain ⟨hne, hlen, hs, hl⟩ := h
  have hc : w.cell? ⟨bs, 0, none⟩ = some (.slice (some ⟨bl, 0, none⟩) l.length l.length) := by rw [cell_blk hs 0]; rfl
  clear hs hl
  have HL := Lib.hid hlen
  clear hlen
  go_enter Tryz.func102, Tryz.ntmps102
  go_wp2
  go_ret
  exact ⟨rfl, rfl⟩
end Go.Proofs.YtfbbieecdenlbaaGreatDoor
