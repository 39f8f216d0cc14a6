/-
  label.Segs: the parts of one label each.
-/
import Derived.Test.YtfbbieecdenlbaaGreatDoorLabel
import Derived.Test.YtfbbieecdenlbaaGreatDoorRow
import Derived.Deep.QuietTactic
import Derived.BigQuiet
namespace Go.Proofs.YtfbbieecdenlbaaGreatDoor
open Go.RowKit

/-- The cells of parts. -/
def segCells (l : List (Int × Nat × Nat)) : List Value := l.flatMap fun s => [.int .u8 s.1, .int .i64 s.2.1, .int .i64 s.2.2]

theorem segCells_length (l : List (Int × Nat × Nat)) : (segCells l).length = l.length * 3 := by
  induction l with
  | nil => rfl
  | cons a l ih => simp [segCells] at ih ⊢; omega

theorem segCells_append (a b : List (Int × Nat × Nat)) : segCells (a ++ b) = segCells a ++ segCells b := by simp [segCells]

/-- One more byte. -/
def segStep (acc : List (Int × Nat × Nat)) (i : Nat) (x : Int) : List (Int × Nat × Nat) :=
  match acc.getLast? with
  | some s => if s.1 = x then acc.dropLast ++ [(s.1, s.2.1, s.2.2 + 1)] else acc ++ [(x, i, 1)]
  | none => [(x, i, 1)]

/-- The parts of the first k labels. -/
def segsTo (l : List Int) : Nat → List (Int × Nat × Nat)
  | 0 => []
  | k + 1 => segStep (segsTo l k) k (nth l k)

theorem segsTo_length (l : List Int) (k : Nat) : (segsTo l k).length ≤ k := by
  induction k with
  | zero => simp [segsTo]
  | succ k ih =>
    simp only [segsTo, segStep]
    split
    · split
      · simp; omega
      · simp; omega
    · simp

theorem segsTo_none (l : List Int) (k : Nat) (h : (segsTo l k).length = 0) : segsTo l (k + 1) = [(nth l k, k, 1)] := by
  have : segsTo l k = [] := List.eq_nil_of_length_eq_zero h
  simp [segsTo, segStep, this]

theorem segsTo_last (l : List Int) (k m : Nat) (h : (segsTo l k).length = m + 1) : ∃ acc s, segsTo l k = acc ++ [s] ∧ acc.length = m ∧
    segsTo l (k + 1) = if s.1 = nth l k then acc ++ [(s.1, s.2.1, s.2.2 + 1)] else acc ++ [s] ++ [(nth l k, k, 1)] := by
  have hne : segsTo l k ≠ [] := by intro e; rw [e] at h; simp at h
  have e : (segsTo l k).dropLast ++ [(segsTo l k).getLast hne] = segsTo l k := List.dropLast_concat_getLast hne
  refine ⟨(segsTo l k).dropLast, (segsTo l k).getLast hne, e.symm, by simp [h], ?_⟩
  rw [segsTo, segStep, List.getLast?_eq_some_getLast hne, e]

theorem infoSeg : (Tryz.prog.info? 157).map (fun i => (i.zero, i.size, i.bytes)) = some (some (.agg #[.int .u8 0, .int .i64 0, .int .i64 0]), 3, 24) := by kernel_rfl

theorem segCells_at (acc : List (Int × Nat × Nat)) (s : Int × Nat × Nat) : (segCells (acc ++ [s]))[acc.length * 3]? = some (.int .u8 s.1) ∧ (segCells (acc ++ [s]))[acc.length * 3 + 1 + 1]? = some (.int .i64 s.2.2) := by
  rw [segCells_append]
  have := segCells_length acc
  constructor
  · rw [List.getElem?_append_right (by omega), this]; simp [segCells]
  · rw [List.getElem?_append_right (by omega), this, show acc.length * 3 + 1 + 1 - acc.length * 3 = 2 by omega]; simp [segCells]

theorem segCells_set (acc : List (Int × Nat × Nat)) (s : Int × Nat × Nat) (x : Nat) : (segCells (acc ++ [s])).set (acc.length * 3 + 1 + 1) (.int .i64 x) = segCells (acc ++ [(s.1, s.2.1, x)]) := by
  rw [segCells_append, segCells_append]
  have := segCells_length acc
  rw [List.set_append_right _ _ (by omega), this, show acc.length * 3 + 1 + 1 - acc.length * 3 = 2 by omega]
  simp [segCells]

theorem segsTo_bound (l : List Int) (k : Nat) : ∀ s ∈ segsTo l k, s.2.1 + s.2.2 ≤ k ∧ 0 < s.2.2 := by
  induction k with
  | zero => simp [segsTo]
  | succ k ih =>
    intro s hs
    simp only [segsTo, segStep] at hs
    split at hs
    · rename_i t ht
      have htm : t ∈ segsTo l k := List.mem_of_getLast? ht
      split at hs
      · rcases List.mem_append.1 hs with h | h
        · have := ih s (List.dropLast_subset _ h); omega
        · simp at h; subst h; have := ih t htm; simp; omega
      · rcases List.mem_append.1 hs with h | h
        · have := ih s h; omega
        · simp at h; subst h; simp
    · simp at hs; subst hs; simp

set_option maxHeartbeats 400000 in
theorem segs_any (bs bl : Nat) (l : List Int) (w : World) (h : SheetAt w bs bl l) :
    Calls Tryz.prog 63 #[.pointer (some ⟨bs, 0, none⟩)] w fun e w' => ∃ v, e = .returned v ∧ Only [] w w' ∧ w'.ownsRow w.heap.size 157 3 v (segsTo l l.length).length (segCells (segsTo l l.length)) := by
  have hS := h
  have hb1 := lt_of_block h.2.2.1
  have hb2 := lt_of_block h.2.2.2
  have hlen := h.2.1
  have HL := Lib.hid hlen
  have hM : (l.length : Int) ≤ 65536 := by omega
  clear hlen
  have HS := Lib.hid hS
  clear hS h
  go_enter Tryz.func63, Tryz.ntmps63
  go_wp2_with (go_at_call 102; refine (len_any bs bl l _ HS.out).mono ?_; rintro e w1 ⟨rfl, rfl⟩)
  go_loopw [3, 4, 5, 8] (fun v _ _ i wr => ∃ k : Nat, k ≤ l.length ∧ i = .int .i64 k ∧ Only [] w wr ∧ wr.ownsRow w.heap.size 157 3 v (segsTo l k).length (segCells (segsTo l k))) (fun _ _ _ i _ => l.length - (intOf i).toNat)
  case atStart => exact ⟨0, by omega, rfl, Only.refl _ _, World.ownsRow_nil _ _ _ _⟩
  case round =>
    obtain ⟨k, hk, rfl, ho, hown⟩ := hrel
    have hsl := segsTo_length l k
    by_cases hlt : k < l.length
    · obtain ⟨hne, _, hs, hl⟩ := HS.out.keep ho (by simp) (by simp)
      have hc : wr.cell? ⟨bs, 0, none⟩ = some (.slice (some ⟨bl, 0, none⟩) l.length l.length) := by rw [cell_blk hs 0]; rfl
      have hc2 : wr.cell? ⟨bl, k, none⟩ = some (.int .u8 (nth l k)) := by rw [cell_blk hl k, intCells_get _ _ _ hlt]
      clear hs hl
      by_cases hz : (segsTo l k).length = 0
      · have H1 := Lib.hid (segsTo_none l k hz)
        rw [show segCells (segsTo l k) = [] by rw [List.eq_nil_of_length_eq_zero hz]; rfl, hz] at hown
        clear hz hsl
        obtain ⟨p, cap, rfl, hcap⟩ := ownsRow_shape hown
        go_wp2
        go_quiet (fail)
        go_wp2_with (at_builtin; refine wpList_append_row _ rfl (.tmp 42) (.tmp 53) 153 153 rfl w.heap.size 157 (.agg #[.int .u8 0, .int .i64 0, .int .i64 0]) 3 24 Tryz.underlying153 infoSeg rfl (by decide) _ 0 [] rfl ?c1 _ 1 [.int .u8 (nth l k), .int .i64 k, .int .i64 1] rfl ?c2 ?c3 ?c4 ?c5 ?_)
        case c1 => exact hown.alloc _
        case c2 => exact Src.lit (size := 3) Tryz.underlying153 (wr.drewN nq) _ 1 [.int .u8 (nth l k), .int .i64 k, .int .i64 1] rfl (by simp [Value.oneCell'])
        case c3 => decide
        case c4 => omega
        case c5 => have := ho.size; simp; omega
        intro v' w1 hown1 hgrow _ _
        go_wp2
        go_roundw
        case rel => exact ⟨k + 1, by omega, by go_num, ((ho.drewN nq).alloc _).grown hgrow (fun b hb => .inr (by have := hown.lt b hb; omega)), by rw [H1.out]; exact hown1⟩
        case measure => simp [intOf]; omega
      · obtain ⟨acc, s, e1, e2, e3⟩ := segsTo_last l k ((segsTo l k).length - 1) (by omega)
        rw [e1] at hown
        have hs1 := segCells_at acc s
        simp only [List.length_append, List.length_cons, List.length_nil, Nat.zero_add] at hown
        obtain ⟨g, cap, rfl, hg, hcap, hcm⟩ := ownsRow_some hown (by omega)
        have hd1 : wr.cell? ⟨g, acc.length * 3, none⟩ = some (.int .u8 s.1) := by rw [hown.cellAt _ (by omega)]; exact hs1.1
        have hd2 : wr.cell? ⟨g, acc.length * 3 + 1 + 1, none⟩ = some (.int .i64 s.2.2) := by rw [hown.cellAt _ (by omega)]; exact hs1.2
        have hd3 := hown.frozenAt (acc.length * 3 + 1 + 1)
        have HW := Lib.hid (segsTo_bound l k s (by rw [e1]; simp))
        have E1 := Lib.hid e1
        have E2 := Lib.hid e2
        have E3 := Lib.hid e3
        clear e1 e2 e3 hs1
        have hab : acc.length < l.length := by have := E2.out; omega
        by_cases heq : s.1 = nth l k
        · go_wp2
          go_quiet (fail)
          go_wp2
          go_roundw
          case rel => exact ⟨k + 1, by omega, by go_num, (ho.drewN nq).setCell (.inr hg) _, by
            have hw : wrap64 ((s.2.2 : Nat) + 1 : Int) = ((s.2.2 + 1 : Nat) : Int) := by have := HW.out; have := hsl; unfold wrap64; omega
            rw [E3.out, if_pos heq, hw, ← segCells_set acc s]
            simpa using (World.ownsRow.stored (w := wr.drewN nq) hown (acc.length * 3 + 1 + 1) (.int .i64 ((s.2.2 + 1 : Nat) : Int))).1⟩
          case measure => simp [intOf]; omega
        · have hne : (s.1 == nth l k) = false := by simpa using heq
          go_wp2
          go_quiet (fail)
          go_wp2_with (at_builtin; refine wpList_append_row _ rfl (.tmp 42) (.tmp 53) 153 153 rfl w.heap.size 157 (.agg #[.int .u8 0, .int .i64 0, .int .i64 0]) 3 24 Tryz.underlying153 infoSeg rfl (by decide) _ (acc.length + 1) (segCells (acc ++ [s])) rfl ?c1 _ 1 [.int .u8 (nth l k), .int .i64 k, .int .i64 1] rfl ?c2 ?c3 ?c4 ?c5 ?_)
          case c1 => exact hown.alloc _
          case c2 => exact Src.lit (size := 3) Tryz.underlying153 (wr.drewN nq) _ 1 [.int .u8 (nth l k), .int .i64 k, .int .i64 1] rfl (by simp [Value.oneCell'])
          case c3 => unfold maxLen; omega
          case c4 => omega
          case c5 => have := ho.size; simp; omega
          intro v' w1 hown1 hgrow _ _
          go_wp2
          go_roundw
          case rel => exact ⟨k + 1, by omega, by go_num, ((ho.drewN nq).alloc _).grown hgrow (fun b hb => .inr (by have := hown.lt b hb; omega)), by rw [E3.out, if_neg heq]; simpa [segCells_append, segCells] using hown1⟩
          case measure => simp [intOf]; omega
    · obtain ⟨p, cap, rfl, hcap⟩ := ownsRow_shape hown
      obtain rfl : k = l.length := by omega
      go_wp2
      go_ret
      exact ⟨_, rfl, ho, hown⟩
end Go.Proofs.YtfbbieecdenlbaaGreatDoor
