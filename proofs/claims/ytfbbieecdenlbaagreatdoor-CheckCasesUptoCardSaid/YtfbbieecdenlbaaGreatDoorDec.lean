/-
  decode.Text, Literal: signs of a file.
-/
import Derived.Test.YtfbbieecdenlbaaGreatDoorTokP
import Derived.Test.YtfbbieecdenlbaaGreatDoorFoldS
import Derived.Test.YtfbbieecdenlbaaGreatDoorRowG
namespace Go.Proofs.YtfbbieecdenlbaaGreatDoor
open Go.RowKit

theorem unAt_lt {L : List (Int × Nat × Nat)} {k : Nat} (h : k < L.length) : unAt L k = L[k] := by simp [unAt, h]
/-- The cells of a sign. -/
structure UnAt (w : World) (b o : Nat) (x : Int × Nat × Nat) : Prop where
  c0 : w.cell? ⟨b, o, none⟩ = some (.int .i32 x.1)
  c1 : w.cell? ⟨b, o + 1, none⟩ = some (.int .i64 (x.2.1 : Int))
  c2 : w.cell? ⟨b, o + 1 + 1, none⟩ = some (.int .i64 (x.2.2 : Int))
/-- A slice of signs that reads as L. -/
def UnitsV (w : World) (v : Value) (L : List (Int × Nat × Nat)) : Prop :=
  ∃ p c, v = .slice p L.length c ∧ L.length ≤ c ∧ c ≤ maxLen ∧ (0 < L.length → ∃ b o, p = some ⟨b, o, none⟩ ∧ ∀ k, k < L.length → UnAt w b (o + k * 3) (unAt L k))
theorem UnAt.keep {w w' : World} {b o : Nat} {x : Int × Nat × Nat} (h : UnAt w b o x) (hc : ∀ p x, w.cell? p = some x → w'.cell? p = some x) : UnAt w' b o x := ⟨hc _ _ h.c0, hc _ _ h.c1, hc _ _ h.c2⟩
theorem UnitsV.keep {w w' : World} {v : Value} {L : List (Int × Nat × Nat)} (h : UnitsV w v L) (hc : ∀ p x, w.cell? p = some x → w'.cell? p = some x) : UnitsV w' v L := by
  obtain ⟨p, c, h1, h2, h3, h4⟩ := h
  refine ⟨p, c, h1, h2, h3, fun hp => ?_⟩
  obtain ⟨b, o, e, hk⟩ := h4 hp
  exact ⟨b, o, e, fun k hk' => (hk k hk').keep hc⟩
theorem UnitsV.only {w w' : World} {v : Value} {L : List (Int × Nat × Nat)} (h : UnitsV w v L) (ho : Only [] w w') : UnitsV w' v L := h.keep fun _ _ hc => ho.cell_some hc (by simp)
theorem UnitsV.shape {w : World} {v : Value} {L : List (Int × Nat × Nat)} (h : UnitsV w v L) : ∃ p c, v = .slice p L.length c ∧ L.length ≤ c ∧ c ≤ maxLen := by
  obtain ⟨p, c, h1, h2, h3, -⟩ := h
  exact ⟨p, c, h1, h2, h3⟩
theorem UnitsV.of_row {w : World} {base : Nat} {e : TypeId} {v : Value} {n : Nat} {L : List (Int × Nat × Nat)} (h : w.ownsRow base e 3 v n (unitCells L)) : UnitsV w v L := by
  have hul : ∀ l : List (Int × Nat × Nat), (unitCells l).length = l.length * 3 := by
    intro l
    induction l with
    | nil => rfl
    | cons a l ih => simp [unitCells] at ih ⊢; omega
  have hl := h.1
  rw [hul] at hl
  obtain rfl : L.length = n := by omega
  rcases h.2 with ⟨rfl, h0⟩ | ⟨g, cap, cur, rfl, hg, hh, h1, h2, h3, h4⟩
  · exact ⟨none, 0, by rw [h0], by omega, by unfold maxLen; omega, fun h => by omega⟩
  · refine ⟨_, cap, rfl, h1, h2, fun hp => ⟨g, 0, rfl, fun k hk => ?_⟩⟩
    obtain ⟨e1, e2, e3⟩ := unitCells_at L k hk
    rw [Nat.zero_add, unAt_lt hk]
    exact ⟨by rw [h.cellAt _ (by omega)]; exact e1, by rw [h.cellAt _ (by omega)]; exact e2, by rw [h.cellAt _ (by omega)]; exact e3⟩

theorem runesL_length (L : List (Int × Nat × Nat)) : (runesL L).length = L.length := by simp [runesL]
theorem runesL_nth {L : List (Int × Nat × Nat)} {k : Nat} (h : k < L.length) : nth (runesL L) k = (unAt L k).1 := by
  rw [nth_lt (by rw [runesL_length]; exact h), unAt_lt h]
  simp [runesL]
theorem runesL_take {L : List (Int × Nat × Nat)} {k : Nat} (h : k < L.length) : (runesL L).take (k + 1) = (runesL L).take k ++ [(unAt L k).1] := by
  rw [← runesL_nth h, nth_lt (by rw [runesL_length]; exact h), List.take_succ_eq_append_getElem (by rw [runesL_length]; exact h)]

set_option maxRecDepth 100000 in
set_option maxHeartbeats 1000000 in
theorem dtext_any (L : List (Int × Nat × Nat)) (v : Value) (w : World) (hv : UnitsV w v L) (hl : L.length ≤ 65536) :
    Calls Tryz.prog 106 #[v] w fun e w' => e = .returned (.string ⟨(textU (runesL L)).toArray⟩) ∧ Only [] w w' := by
  obtain ⟨p, c, rfl, hc, hm, hk⟩ := hv
  have HK := Lib.hid hk
  have hl' : (L.length : Int) ≤ 65536 := by omega
  have hrl := runesL_length L
  clear hk
  go_enter Tryz.func106, Tryz.ntmps106
  go_wp2_with fail
  go_loopw [3, 8] (fun rv iv wr => ∃ k : Nat, k ≤ L.length ∧ iv = .int .i64 k ∧ Only [] w wr ∧ wr.ownsRow w.heap.size 21 1 rv k (((runesL L).take k).map (Value.int .i32))) (fun _ iv _ => L.length - (intOf iv).toNat)
  case atStart => exact ⟨0, by omega, rfl, Only.refl _ _, World.ownsRow_nil _ _ _ _⟩
  case round =>
    obtain ⟨k, hkl, rfl, ho, hown⟩ := hrel
    obtain ⟨pr, cr, rfl, -⟩ := ownsRow_shape hown
    have HO := Lib.hid ho
    have HOWN := Lib.hid hown
    clear hown
    by_cases hlt : k < L.length
    · obtain ⟨b, o, rfl, hcell⟩ := HK.out (by omega)
      have hkc : (k : Int) < c := by omega
      have hu := (hcell k hlt).keep fun _ _ hx => ho.cell_some hx (by simp)
      have k0 := hu.c0
      have k1 := hu.c1
      have k2 := hu.c2
      have htk := runesL_take hlt
      have HTK := Lib.hid htk
      clear hcell hu ho htk
      generalize (unAt L k).1 = x at *
      generalize (unAt L k).2.1 = y at *
      generalize (unAt L k).2.2 = z at *
      have hc := cell_blk (alloc_new wr (.cells #[.int .i32 x, .int .i64 y, .int .i64 z] 114)) 0
      have q0 : (wr.alloc (.cells #[.int .i32 x, .int .i64 y, .int .i64 z] 114)).cell? ⟨wr.heap.size, 0, none⟩ = some (.int .i32 x) := by rw [hc]; rfl
      clear hc
      go_wp2_with (at_builtin; refine wpList_append_lit rfl (.tmp 12) (.tmp 15) 78 rfl w [] 21 (.int .i32 0) 1 4 Tryz.underlying78 infoRune rfl (by decide) (.slice pr k cr) k _ rfl (HOWN.out.alloc _) (HO.out.alloc _) (wr.heap.size + 1) 1 [.int .i32 x] rfl (by simp) rfl (by simp [Value.oneCell']) (by unfold maxLen; omega) (by omega) ?_)
      intro v' w3 hown3 ho3
      have HOWN3 := Lib.hid hown3
      have HO3 := Lib.hid ho3
      clear hown3 ho3
      go_wp2_with fail
      go_roundw
      case rel => exact ⟨k + 1, by omega, by go_num, HO3.out, by rw [HTK.out]; simpa using HOWN3.out⟩
      case measure => simp [intOf]; omega
    · obtain rfl : k = L.length := by omega
      have h := HOWN.out
      rw [← hrl, List.take_length] at h
      have h2 := IntsV.of_row h
      rw [hrl] at h2
      have HC := Lib.hid (text_any (runesL L) (.slice pr L.length cr) wr h2 (by omega))
      clear h h2 ho hrl
      go_wp2_with fail
      refine HC.out.mono ?_
      rintro e w4 ⟨rfl, ho4⟩
      have HO4 := Lib.hid ho4
      clear ho4
      go_wp2_with fail
      go_ret
      exact ⟨rfl, HO.out.trans HO4.out⟩
end Go.Proofs.YtfbbieecdenlbaaGreatDoor
