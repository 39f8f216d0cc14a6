/-
  trie, plainly: every word of a list of words is found in the list's trie.
-/
import Derived.Test.YtfbbieecdenlbaaGreatDoorTrieM
import Derived.Test.YtfbbieecdenlbaaGreatDoorTrieQ
namespace Go.Proofs.YtfbbieecdenlbaaGreatDoor
open Go.RowKit

theorem make_law (L : List (List UInt8)) : ∀ k, k ≤ L.length → ∃ C, Inv (makeN L k) C ∧ ∀ j, j < k → Word (makeN L k) C (runesU (nthS L j)) := by
  intro k
  induction k with
  | zero => intro _; exact ⟨_, inv_nil, fun j hj => by omega⟩
  | succ k ih =>
    intro hk
    obtain ⟨C, h1, h2⟩ := ih (by omega)
    obtain ⟨-, C', h3, h4, h5⟩ := put_law h1 (runesU (nthS L k))
    rw [makeN_succ L k (by omega)]
    refine ⟨C', h3, fun j hj => ?_⟩
    by_cases e : j = k
    · subst e; exact h4
    · exact h5 _ (h2 j (by omega))
theorem okWords_of {L : List (List UInt8)} (few : L.length ≤ 4096) (word : ∀ k, k < L.length → nthS L k ≠ [] ∧ (nthS L k).length ≤ 64 ∧ (runesU (nthS L k)).contains (-1) = false)
    (rise : ∀ k, k + 1 < L.length → Op.bytesLess (nthS L k) (nthS L (k + 1)) = true) : OkWords L :=
  ⟨few, word, rise, fun k hk => by
    obtain ⟨C, h1, -⟩ := make_law L k (by omega)
    exact (put_law h1 _).1⟩
theorem make_wf (L : List (List UInt8)) : wfN (makeN L L.length) := by
  obtain ⟨C, h1, -⟩ := make_law L L.length (Nat.le_refl _)
  exact h1.wf
theorem make_has (L : List (List UInt8)) (j : Nat) (hj : j < L.length) : hasW (makeN L L.length) 0 (runesU (nthS L j)) = true := by
  obtain ⟨C, h1, h2⟩ := make_law L L.length (Nat.le_refl _)
  obtain ⟨k, -, h3, h4⟩ := h2 j hj
  exact has_law h1 _ 0 k h1.pos h3 h4
end Go.Proofs.YtfbbieecdenlbaaGreatDoor
