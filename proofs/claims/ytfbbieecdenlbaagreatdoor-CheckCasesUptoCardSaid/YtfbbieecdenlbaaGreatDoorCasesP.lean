/-
  A Size's book, plainly: its words, its corrections; a word in a case, and folded again.
-/
import Derived.Test.YtfbbieecdenlbaaGreatDoorOrder
import Derived.Test.YtfbbieecdenlbaaGreatDoorBookN
namespace Go.Proofs.YtfbbieecdenlbaaGreatDoor
open Go.RowKit

theorem ok_asI (c : Int) (i : Nat) (r : Int) (h : okU r = true ∧ greatU r = false) : okU (asI c i r) = true ∧ (c = 1 ∨ c = 2 ∨ c = 3 → downU (asI c i r) = r) := by
  obtain ⟨u1, u2⟩ := down_up r h.2
  have d := down_id r h.2
  unfold asI
  by_cases h3 : c = 3
  · subst h3
    exact ⟨u2 h.1, fun _ => u1⟩
  · rw [if_neg (by simpa using h3)]
    by_cases h2 : c = 2
    · subst h2
      rw [if_pos (by decide)]
      split
      · exact ⟨u2 h.1, fun _ => u1⟩
      · rw [d, d]; exact ⟨h.1, fun _ => rfl⟩
    · rw [if_neg (by simpa using h2)]
      by_cases h1 : c = 1
      · subst h1
        rw [if_pos (by decide), d, d]
        exact ⟨h.1, fun _ => rfl⟩
      · rw [if_neg (by simpa using h1)]
        exact ⟨h.1, fun e => by omega⟩
theorem ok_asR (c : Int) (l : List Int) (h : ∀ r ∈ l, okU r = true ∧ greatU r = false) : (∀ r ∈ asR c l, okU r = true) ∧ (c = 1 ∨ c = 2 ∨ c = 3 → (asR c l).map downU = l) := by
  constructor
  · intro r hr
    obtain ⟨i, hi, rfl⟩ := List.getElem_of_mem hr
    have hi' : i < l.length := by simpa [asR] using hi
    simp only [asR, List.getElem_mapIdx]
    exact (ok_asI c i _ (h _ (List.getElem_mem hi'))).1
  · intro hc
    apply List.ext_getElem (by simp [asR])
    intro i h1 h2
    simp only [asR, List.getElem_map, List.getElem_mapIdx]
    exact (ok_asI c i _ (h _ (List.getElem_mem h2))).2 hc
/-- A folded text in a case, folded, is as it was. -/
theorem fold_as {s : List UInt8} (h : Folded s) (c : Int) (hc : c = 1 ∨ c = 2 ∨ c = 3) : foldU (asU c s) = s := by
  obtain ⟨l, rfl, -, h2, -⟩ := h
  obtain ⟨g1, g2⟩ := ok_asR c l h2
  unfold foldU asU
  rw [runes_text l (fun r hr => (h2 r hr).1), runes_text _ g1, g2 hc]
theorem fold_id {s : List UInt8} (h : Folded s) : foldU s = s := by
  obtain ⟨l, rfl, -, h2, -⟩ := h
  unfold foldU
  rw [runes_text l (fun r hr => (h2 r hr).1)]
  congr 1
  conv => rhs; rw [← List.map_id l]
  exact List.map_congr_left fun r hr => down_id r (h2 r hr).2
theorem text_ne {l : List Int} (h : ∀ r ∈ l, okU r = true) (hn : l ≠ []) : textU l ≠ [] := by
  cases l with
  | nil => exact absurd rfl hn
  | cons a l =>
    intro e
    have h1 := enc_pos a (h a (by simp))
    have h2 := congrArg List.length e
    simp only [textU, List.flatMap_cons, List.length_append, List.length_nil] at h2
    omega
theorem as_ne {s : List UInt8} (h : Folded s) (c : Int) : asU c s ≠ [] := by
  obtain ⟨l, rfl, -, h2, h3⟩ := h
  unfold asU
  rw [runes_text l (fun r hr => (h2 r hr).1)]
  refine text_ne (ok_asR c l h2).1 fun e => h3 ?_
  have : l = [] := List.length_eq_zero_iff.1 (by have := congrArg List.length e; simpa [asR] using this)
  rw [this]
  rfl
theorem folded_len {s : List UInt8} (h : Folded s) : s.length ≤ 48 ∧ (runesU s).contains (-1) = false ∧ (runesU s).length ≤ 12 := by
  obtain ⟨l, rfl, h1, h2, h3⟩ := h
  have := textU_len l
  refine ⟨by omega, ?_, by rw [runes_text l (fun r hr => (h2 r hr).1)]; exact h1⟩
  rw [runes_text l (fun r hr => (h2 r hr).1)]
  cases hc : l.contains (-1) with
  | false => rfl
  | true =>
    have hm : (-1 : Int) ∈ l := by simpa using hc
    have := (h2 _ hm).1
    simp [okU] at this
theorem book_ok (l : List (List UInt8)) : OkWords (bookWords l) := by
  obtain ⟨h1, h2, h3⟩ := book_law l
  refine okWords_of (by omega) (fun k hk => ?_) (fun k hk => rises_next h1 k hk)
  have hf := h2 _ (nthS_mem hk)
  have hl := folded_len hf
  obtain ⟨-, -, -, -, hne⟩ := hf
  exact ⟨hne, by omega, hl.2.1⟩

/-- Few. -/
def fewL : List (List UInt8) := [[97], [116, 104, 101], [119, 111, 114, 100], [116, 101, 104], [119, 114, 111, 100], [102, 105, 108, 101], [100, 111, 110, 39, 116], [195, 169], [99, 111, 100, 101], [104, 116, 109, 108], [112, 97, 114, 115, 101], [114, 101, 99, 105, 101, 118, 101], [114, 101, 99, 101, 105, 118, 101], [97, 110, 100], [97, 100, 110]]
def folded? (s : List UInt8) : Bool := decide (s = textU (runesU s)) && (decide ((runesU s).length ≤ 12) && (((runesU s).all fun r => okU r && !greatU r) && decide (s ≠ [])))
theorem folded_of {s : List UInt8} (h : folded? s = true) : Folded s := by
  unfold folded? at h
  simp only [Bool.and_eq_true, decide_eq_true_eq, List.all_eq_true, Bool.not_eq_true'] at h
  exact ⟨runesU s, h.1, h.2.1, h.2.2.1, h.2.2.2⟩
theorem few_all : (fewL.all folded?) = true := by kernel_rfl
theorem few_folded (k : Nat) (h : k < 15) : Folded (nthS fewL k) := folded_of (List.all_eq_true.1 few_all _ (nthS_mem h))

/-- A correction of numbers. -/
def fixOne (f : Int × Int × Int) : List UInt8 × List (List UInt8) :=
  (nthS fewL (f.1 % 15).toNat, if 127 < f.2.2 ∧ nthS fewL (f.2.2 % 15).toNat ≠ nthS fewL (f.2.1 % 15).toNat then [nthS fewL (f.2.1 % 15).toNat, nthS fewL (f.2.2 % 15).toNat] else [nthS fewL (f.2.1 % 15).toNat])
def fixStep (o : FixL) (f : Int × Int × Int) : FixL := if (lookF o (fixOne f).1).isSome then o else o ++ [fixOne f]
/-- The corrections of a Size's book. -/
def bookFixes (l : List (Int × Int × Int)) : FixL := (l.take 13).foldl fixStep []
structure GoodFixes (o : FixL) : Prop where
  apart : ∀ k, k < o.length → lookF (o.take k) (fxAt o k).1 = none
  good : ∀ k, k < o.length → Folded (fxAt o k).1 ∧ ((fxAt o k).2.length = 1 ∨ (fxAt o k).2.length = 2) ∧ ∀ x ∈ (fxAt o k).2, Folded x
theorem fixOne_good (f : Int × Int × Int) : Folded (fixOne f).1 ∧ ((fixOne f).2.length = 1 ∨ (fixOne f).2.length = 2) ∧ ∀ x ∈ (fixOne f).2, Folded x := by
  have h : ∀ a : Int, Folded (nthS fewL (a % 15).toNat) := fun a => few_folded _ (by omega)
  refine ⟨h _, ?_, ?_⟩
  · unfold fixOne
    dsimp only
    split
    · exact Or.inr rfl
    · exact Or.inl rfl
  · intro x hx
    unfold fixOne at hx
    dsimp only at hx
    split at hx
    · simp only [List.mem_cons, List.not_mem_nil, or_false] at hx
      rcases hx with rfl | rfl
      · exact h _
      · exact h _
    · simp only [List.mem_cons, List.not_mem_nil, or_false] at hx
      subst hx
      exact h _
theorem fxAt_app {o : FixL} (x : List UInt8 × List (List UInt8)) {k : Nat} (h : k < o.length) : fxAt (o ++ [x]) k = fxAt o k := by
  simp [fxAt, h, List.getElem?_append_left]
theorem fxAt_new (o : FixL) (x : List UInt8 × List (List UInt8)) : fxAt (o ++ [x]) o.length = x := by
  simp [fxAt]
theorem fixStep_good (o : FixL) (f : Int × Int × Int) (h : GoodFixes o) : GoodFixes (fixStep o f) ∧ o.length ≤ (fixStep o f).length ∧ (fixStep o f).length ≤ o.length + 1 := by
  unfold fixStep
  by_cases e : (lookF o (fixOne f).1).isSome = true
  · rw [if_pos e]; exact ⟨h, by omega, by omega⟩
  · rw [if_neg e]
    refine ⟨⟨fun k hk => ?_, fun k hk => ?_⟩, by simp, by simp⟩
    · by_cases hk' : k < o.length
      · rw [fxAt_app _ hk', List.take_append_of_le_length (by omega)]
        exact h.apart k hk'
      · obtain rfl : k = o.length := by simp at hk; omega
        rw [fxAt_new, List.take_left]
        simpa using e
    · by_cases hk' : k < o.length
      · rw [fxAt_app _ hk']; exact h.good k hk'
      · obtain rfl : k = o.length := by simp at hk; omega
        rw [fxAt_new]; exact fixOne_good f
theorem fold_good : ∀ (l : List (Int × Int × Int)) (o : FixL), GoodFixes o → GoodFixes (l.foldl fixStep o) ∧ (l.foldl fixStep o).length ≤ o.length + l.length := by
  intro l
  induction l with
  | nil => intro o h; exact ⟨h, Nat.le_refl _⟩
  | cons a l ih =>
    intro o h
    obtain ⟨h1, -, h2⟩ := fixStep_good o a h
    obtain ⟨h3, h4⟩ := ih _ h1
    exact ⟨h3, by simp only [List.foldl_cons, List.length_cons]; omega⟩
theorem fixes_good (l : List (Int × Int × Int)) : GoodFixes (bookFixes l) ∧ (bookFixes l).length ≤ 13 := by
  obtain ⟨h1, h2⟩ := fold_good (l.take 13) [] ⟨fun k hk => by simp at hk, fun k hk => by simp at hk⟩
  refine ⟨h1, Nat.le_trans h2 ?_⟩
  simp
  omega
theorem GoodFixes.ok {o : FixL} (h : GoodFixes o) (hl : o.length ≤ 13) : OkFixes o :=
  ⟨by omega, h.apart, fun k hk => by
    obtain ⟨h1, h2, -⟩ := h.good k hk
    have := (folded_len h1).1
    omega⟩
/-- What is listed is found. -/
theorem GoodFixes.look {o : FixL} (h : GoodFixes o) : ∀ n, n ≤ o.length → ∀ k, k < n → lookF (o.take n) (fxAt o k).1 = some (fxAt o k).2 := by
  intro n
  induction n with
  | zero => intro _ k hk; omega
  | succ n ih =>
    intro hn k hk
    rw [lookF_take o n (by omega) (h.apart n (by omega))]
    by_cases e : k = n
    · subst e; rw [if_pos rfl]
    · have hk' : k < n := by omega
      have h1 := ih (by omega) k hk'
      rw [if_neg, h1]
      intro e2
      rw [e2, h.apart n (by omega)] at h1
      cases h1
theorem GoodFixes.at {o : FixL} (h : GoodFixes o) (k : Nat) (hk : k < o.length) : lookF o (fxAt o k).1 = some (fxAt o k).2 := by
  have := h.look o.length (Nat.le_refl _) k hk
  rwa [List.take_length] at this
/-- What is found is listed. -/
theorem look_short {o : FixL} (h : GoodFixes o) : ∀ u l, lookF o u = some l → ∀ x ∈ l, x.length ≤ 10000 := by
  intro u l e x hx
  unfold lookF at e
  cases hf : o.find? (fun p => decide (p.1 = u)) with
  | none => rw [hf] at e; cases e
  | some p =>
    rw [hf] at e
    cases e
    obtain ⟨k, hk, rfl⟩ := List.getElem_of_mem (List.mem_of_find?_eq_some hf)
    have h1 := (h.good k hk).2.2
    have h2 : fxAt o k = o[k] := by simp [fxAt, hk]
    rw [h2] at h1
    have := (folded_len (h1 x hx)).1
    omega

/-! The law. -/
theorem cases_word (ws : List (List UInt8)) (o : FixL) (k : Nat) (hk : k < (bookWords ws).length) (c : Int) (hc : c = 1 ∨ c = 2 ∨ c = 3) :
    knowsL (makeN (bookWords ws) (bookWords ws).length) (lookF o) (asU c (nthS (bookWords ws) k)) = (lookF o (nthS (bookWords ws) k)).isNone ∧ knowsL (makeN (bookWords ws) (bookWords ws).length) (lookF o) (nthS (bookWords ws) k) = (lookF o (nthS (bookWords ws) k)).isNone := by
  have hf := (book_law ws).2.1 _ (nthS_mem hk)
  unfold knowsL
  rw [fold_as hf c hc, fold_id hf, make_has _ k hk]
  simp
theorem cases_fix (N : List Nd) {o : FixL} (h : GoodFixes o) (k : Nat) (hk : k < o.length) (c : Int) (hc : c = 1 ∨ c = 2 ∨ c = 3) :
    knowsL N (lookF o) (asU c (fxAt o k).1) = false ∧ ((fxAt o k).2.length = 1 → fixL (lookF o) (asU c (fxAt o k).1) = asU (ofU (asU c (fxAt o k).1)) (nthS (fxAt o k).2 0) ∧ fixL (lookF o) (asU c (fxAt o k).1) ≠ []) ∧ ((fxAt o k).2.length ≠ 1 → fixL (lookF o) (asU c (fxAt o k).1) = []) := by
  obtain ⟨h1, h2, h3⟩ := h.good k hk
  have e := h.at k hk
  unfold knowsL fixL
  rw [fold_as h1 c hc, e]
  refine ⟨rfl, fun hl => ?_, fun hl => ?_⟩
  · match hm : (fxAt o k).2, hl with
    | [x], _ => exact ⟨rfl, as_ne (h3 x (by rw [hm]; simp)) _⟩
  · match hm : (fxAt o k).2, hl with
    | [], _ => rfl
    | x :: y :: r, _ => rfl
end Go.Proofs.YtfbbieecdenlbaaGreatDoor
