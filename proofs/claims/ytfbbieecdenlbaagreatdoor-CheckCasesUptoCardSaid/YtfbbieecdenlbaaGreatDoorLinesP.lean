/-
  Bytes as lines: the plain facts.
-/
import Derived.Test.YtfbbieecdenlbaaGreatDoorLines
namespace Go.Proofs.YtfbbieecdenlbaaGreatDoor

theorem begs_sorted (l : List UInt8) (k : Nat) : (begs l k).Pairwise (· < ·) := by
  induction k with
  | zero => simp [begs]
  | succ k ih =>
    rw [begs]
    split
    · rw [List.pairwise_append]
      refine ⟨ih, by simp, ?_⟩
      intro x hx y hy
      simp at hy; subst hy
      have := begs_le l k x hx
      omega
    · exact ih

theorem bg_eq (l : List UInt8) (j : Nat) (h : j < nb l) : bg l j = (begs l l.length)[j]'h := by
  unfold bg
  rw [List.getD_eq_getElem?_getD, List.getElem?_eq_getElem h]; rfl

theorem bg_lt (l : List UInt8) (i j : Nat) (h : i < j) (hj : j < nb l) : bg l i < bg l j := by
  rw [bg_eq l i (by omega), bg_eq l j hj]
  exact List.pairwise_iff_getElem.1 (begs_sorted l l.length) i j (by unfold nb at hj; omega) hj h

theorem begs_zero (l : List UInt8) (k : Nat) : (begs l k)[0]? = some 0 := by
  induction k with
  | zero => rfl
  | succ k ih =>
    rw [begs]
    split
    · rw [List.getElem?_append_left (by have := begs_length l k; omega), ih]
    · exact ih

theorem bg_zero (l : List UInt8) : bg l 0 = 0 := by
  unfold bg
  rw [List.getD_eq_getElem?_getD, begs_zero]; rfl

theorem nb_pos (l : List UInt8) : 0 < nb l := (begs_length l l.length).1

theorem line_ok (l : List UInt8) (j : Nat) (h : j < nLines l) : bg l j < lend l j ∧ lend l j ≤ l.length := by
  have hn := nb_pos l
  have hnl : nLines l ≤ nb l := by unfold nLines; split <;> omega
  unfold lend
  split
  · rename_i h1
    exact ⟨bg_lt l j (j + 1) (by omega) h1, bg_le l (j + 1) h1⟩
  · rename_i h1
    have hj : j = nb l - 1 := by omega
    have : bg l (nb l - 1) ≠ l.length := by
      intro e
      unfold nLines at h
      rw [if_pos e] at h
      omega
    have := bg_le l j (by omega)
    rw [hj] at this ⊢
    omega

theorem splitTo_flat (l : List UInt8) (k : Nat) (h : k ≤ nLines l) : (splitTo l k).flatten = l.take (if k < nb l then bg l k else l.length) := by
  have hnl : nLines l ≤ nb l := by have := nb_pos l; unfold nLines; split <;> omega
  induction k with
  | zero => rw [if_pos (nb_pos l), bg_zero]; simp [splitTo]
  | succ k ih =>
    have ⟨h1, h2⟩ := line_ok l k (by omega)
    rw [splitTo_succ, List.flatten_append, ih (by omega), if_pos (by omega)]
    have e : lend l k = if k + 1 < nb l then bg l (k + 1) else l.length := rfl
    rw [← e]
    simp only [List.flatten_cons, List.flatten_nil, List.append_nil]
    rw [show lend l k = bg l k + (lend l k - bg l k) by omega, List.take_add]
    simp

theorem split_flat (l : List UInt8) : (splitL l).flatten = l := by
  rw [splitL, splitTo_flat l _ (Nat.le_refl _)]
  have : (if nLines l < nb l then bg l (nLines l) else l.length) = l.length := by
    have := nb_pos l
    split
    · rename_i h
      unfold nLines at h ⊢
      split at h
      · rename_i h1; rw [if_pos h1]; exact h1
      · omega
    · rfl
  rw [this, List.take_length]

theorem split_len (l : List UInt8) : (splitL l).length ≤ l.length := by
  have h1 : (splitL l).length = nLines l := splitTo_length l _
  rw [h1]
  have h2 := begs_length l l.length
  have : nb l ≤ l.length + 1 := h2.2
  unfold nLines
  split
  · omega
  · rename_i h
    -- each of nb lines begins below l.length
    have hlast := bg_le l (nb l - 1) (by have := nb_pos l; omega)
    have key : ∀ j, j < nb l → j ≤ bg l j := by
      intro j
      induction j with
      | zero => intro _; omega
      | succ j ih => intro hj; have := ih (by omega); have := bg_lt l j (j + 1) (by omega) hj; omega
    have := key (nb l - 1) (by have := nb_pos l; omega)
    omega

theorem split_mem (l : List UInt8) : ∀ s ∈ splitL l, s ≠ [] ∧ s.length ≤ l.length := by
  intro s hs
  simp only [splitL, splitTo, List.mem_map, List.mem_range] at hs
  obtain ⟨j, hj, rfl⟩ := hs
  have ⟨h1, h2⟩ := line_ok l j hj
  constructor
  · intro e
    have : (List.take (lend l j - bg l j) (List.drop (bg l j) l)).length = 0 := by rw [e]; rfl
    simp at this; omega
  · simp; omega

end Go.Proofs.YtfbbieecdenlbaaGreatDoor
