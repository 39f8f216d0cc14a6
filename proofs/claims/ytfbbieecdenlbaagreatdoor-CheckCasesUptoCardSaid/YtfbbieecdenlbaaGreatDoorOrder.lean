/-
  Texts by their bytes, plainly: an order; a list that rises, a text put into it.
-/
import Derived.Test.YtfbbieecdenlbaaGreatDoorRound
import Derived.Test.YtfbbieecdenlbaaGreatDoorTrieR
namespace Go.Proofs.YtfbbieecdenlbaaGreatDoor
open Go.RowKit

theorem less_irrefl : ∀ a : List UInt8, Op.bytesLess a a = false := by
  intro a
  induction a with
  | nil => rfl
  | cons x a ih => simp [Op.bytesLess, ih]
theorem less_trans : ∀ a b c : List UInt8, Op.bytesLess a b = true → Op.bytesLess b c = true → Op.bytesLess a c = true := by
  intro a
  induction a with
  | nil =>
    intro b c h1 h2
    cases c with
    | nil => cases b <;> simp [Op.bytesLess] at h2
    | cons z c => rfl
  | cons x a ih =>
    intro b c h1 h2
    cases b with
    | nil => simp [Op.bytesLess] at h1
    | cons y b =>
      cases c with
      | nil => simp [Op.bytesLess] at h2
      | cons z c =>
        simp only [Op.bytesLess, Bool.or_eq_true, Bool.and_eq_true, decide_eq_true_eq, beq_iff_eq] at h1 h2 ⊢
        have := ih b c
        simp only [UInt8.lt_iff_toNat_lt, ← UInt8.toNat_inj] at h1 h2 ⊢
        rcases h1 with h1 | ⟨h1, h3⟩ <;> rcases h2 with h2 | ⟨h2, h4⟩
        · left; omega
        · left; omega
        · left; omega
        · right; exact ⟨by omega, this h3 h4⟩
theorem less_total : ∀ a b : List UInt8, a ≠ b → Op.bytesLess a b = false → Op.bytesLess b a = true := by
  intro a
  induction a with
  | nil =>
    intro b h1 h2
    cases b with
    | nil => exact absurd rfl h1
    | cons y b => simp [Op.bytesLess] at h2
  | cons x a ih =>
    intro b h1 h2
    cases b with
    | nil => rfl
    | cons y b =>
      have := ih b
      simp only [Op.bytesLess, Bool.or_eq_false_iff, Bool.and_eq_false_iff, decide_eq_false_iff_not, beq_eq_false_iff_ne, Bool.or_eq_true, Bool.and_eq_true, decide_eq_true_eq, beq_iff_eq] at h2 ⊢
      simp only [UInt8.lt_iff_toNat_lt, ← UInt8.toNat_inj, ne_eq] at h2 ⊢
      by_cases e : x = y
      · subst e
        right
        refine ⟨rfl, this (fun e => h1 (by rw [e])) ?_⟩
        rcases h2.2 with h | h
        · exact absurd rfl h
        · exact h
      · left
        have : x.toNat ≠ y.toNat := fun e' => e (UInt8.toNat_inj.1 e')
        omega
theorem less_ne {a b : List UInt8} (h : Op.bytesLess a b = true) : a ≠ b := fun e => by subst e; rw [less_irrefl] at h; cases h

/-- A list that rises. -/
def Rises (l : List (List UInt8)) : Prop := l.Pairwise fun a b => Op.bytesLess a b = true
/-- How many of a list are less than s, from the first on. -/
def lessN (s : List UInt8) : List (List UInt8) → Nat
  | [] => 0
  | a :: l => if Op.bytesLess a s then lessN s l + 1 else 0
theorem lessN_le (s : List UInt8) (l : List (List UInt8)) : lessN s l ≤ l.length := by
  induction l with
  | nil => exact Nat.le_refl _
  | cons a l ih => rw [lessN]; split <;> simp <;> omega
theorem lessN_lt (s : List UInt8) (l : List (List UInt8)) : ∀ k, k < lessN s l → Op.bytesLess (nthS l k) s = true := by
  induction l with
  | nil => intro k h; simp [lessN] at h
  | cons a l ih =>
    intro k h
    rw [lessN] at h
    split at h
    · rename_i e
      cases k with
      | zero => exact e
      | succ k => exact ih k (by omega)
    · omega
theorem lessN_at (s : List UInt8) (l : List (List UInt8)) (h : lessN s l < l.length) : Op.bytesLess (nthS l (lessN s l)) s = false := by
  induction l with
  | nil => simp [lessN] at h
  | cons a l ih =>
    rw [lessN] at h ⊢
    by_cases e : Op.bytesLess a s = true
    · rw [if_pos e] at h ⊢
      exact ih (by simpa using h)
    · rw [if_neg e]
      exact Bool.eq_false_iff.2 e
/-- A text put into a list that rises. -/
def insL (l : List (List UInt8)) (s : List UInt8) : List (List UInt8) :=
  if s ≠ [] ∧ (lessN s l = l.length ∨ nthS l (lessN s l) ≠ s) then l.take (lessN s l) ++ [s] ++ l.drop (lessN s l) else l
theorem insL_len (l : List (List UInt8)) (s : List UInt8) : l.length ≤ (insL l s).length ∧ (insL l s).length ≤ l.length + 1 := by
  unfold insL
  split
  · simp; omega
  · omega
theorem insL_mem (l : List (List UInt8)) (s x : List UInt8) (h : x ∈ insL l s) : x ∈ l ∨ (x = s ∧ s ≠ []) := by
  unfold insL at h
  split at h
  · rename_i e
    simp only [List.append_assoc, List.mem_append, List.mem_cons, List.not_mem_nil, or_false] at h
    rcases h with h | h | h
    · exact Or.inl (List.mem_of_mem_take h)
    · exact Or.inr ⟨h, e.1⟩
    · exact Or.inl (List.mem_of_mem_drop h)
  · exact Or.inl h
theorem nthS_mem {l : List (List UInt8)} {k : Nat} (h : k < l.length) : nthS l k ∈ l := by
  unfold nthS
  rw [List.getD_eq_getElem?_getD, List.getElem?_eq_getElem h]
  exact List.getElem_mem h
theorem nthS_at {l : List (List UInt8)} {k : Nat} (h : k < l.length) : nthS l k = l[k] := by
  unfold nthS
  rw [List.getD_eq_getElem?_getD, List.getElem?_eq_getElem h]
  rfl
theorem insL_rises (l : List (List UInt8)) (s : List UInt8) (h : Rises l) : Rises (insL l s) := by
  unfold insL
  split
  · rename_i e
    unfold Rises at h ⊢
    have h0 := h
    rw [← List.take_append_drop (lessN s l) l] at h
    obtain ⟨h1, h2, h3⟩ := List.pairwise_append.1 h
    have hA : ∀ x ∈ l.take (lessN s l), Op.bytesLess x s = true := by
      intro x hx
      obtain ⟨k, hk, rfl⟩ := List.getElem_of_mem hx
      rw [List.getElem_take]
      have hk2 : k < lessN s l := by simp at hk; omega
      rw [← nthS_at]
      exact lessN_lt s l k hk2
    have hB : ∀ x ∈ l.drop (lessN s l), Op.bytesLess s x = true := by
      intro x hx
      have hlt : lessN s l < l.length := by
        rcases Nat.lt_or_ge (lessN s l) l.length with g | g
        · exact g
        · rw [List.drop_eq_nil_of_le g] at hx; cases hx
      have hne : nthS l (lessN s l) ≠ s := by
        rcases e.2 with g | g
        · omega
        · exact g
      have hf := less_total _ _ hne (lessN_at s l hlt)
      rw [List.drop_eq_getElem_cons hlt] at hx h2
      rw [nthS_at hlt] at hf
      rcases List.mem_cons.1 hx with rfl | hx
      · exact hf
      · exact less_trans _ _ _ hf ((List.pairwise_cons.1 h2).1 x hx)
    rw [List.append_assoc, List.pairwise_append]
    refine ⟨h1, ?_, ?_⟩
    · rw [List.singleton_append, List.pairwise_cons]
      exact ⟨hB, h2⟩
    · intro x hx y hy
      simp only [List.singleton_append, List.mem_cons] at hy
      rcases hy with rfl | hy
      · exact hA x hx
      · exact h3 x hx y hy
  · exact h
theorem rises_next {l : List (List UInt8)} (h : Rises l) (k : Nat) (hk : k + 1 < l.length) : Op.bytesLess (nthS l k) (nthS l (k + 1)) = true := by
  rw [nthS_at (by omega), nthS_at hk]
  exact List.pairwise_iff_getElem.1 h k (k + 1) (by omega) hk (by omega)

/-- A text's first twelve signs. -/
def twelve (s : List UInt8) : List Int := ((runesU s).filter fun r => decide (0 ≤ r)).take 12
/-- redpenlaw07.Sorted. -/
def sortL (l : List (List UInt8)) : List (List UInt8) := (l.take 61).foldl (fun o s => insL o (textU (twelve s))) []
theorem twelve_ok (s : List UInt8) : ∀ r ∈ twelve s, okU r = true := by
  intro r hr
  have h := List.mem_filter.1 (List.mem_of_mem_take hr)
  exact runesU_ok s r h.1 (of_decide_eq_true h.2)
theorem twelve_len (s : List UInt8) : (twelve s).length ≤ 12 := by unfold twelve; rw [List.length_take]; omega
/-- A text of twelve signs at most, not empty. -/
def Twelve (s : List UInt8) : Prop := ∃ l : List Int, s = textU l ∧ l.length ≤ 12 ∧ (∀ r ∈ l, okU r = true) ∧ s ≠ []
theorem fold_ins (f : List UInt8 → List UInt8) (P : List UInt8 → Prop) : ∀ (l o : List (List UInt8)), (∀ x ∈ l, f x ≠ [] → P (f x)) → (Rises o ∧ ∀ x ∈ o, P x) → Rises (l.foldl (fun o s => insL o (f s)) o) ∧ (∀ x ∈ l.foldl (fun o s => insL o (f s)) o, P x) ∧ (l.foldl (fun o s => insL o (f s)) o).length ≤ o.length + l.length := by
  intro l
  induction l with
  | nil => intro o _ h; exact ⟨h.1, h.2, Nat.le_refl _⟩
  | cons a l ih =>
    intro o hl h
    have h1 := insL_rises o (f a) h.1
    have h2 : ∀ x ∈ insL o (f a), P x := by
      intro x hx
      rcases insL_mem o (f a) x hx with g | ⟨g, g2⟩
      · exact h.2 x g
      · rw [g]; exact hl a (by simp) g2
    have h3 := (insL_len o (f a)).2
    obtain ⟨g1, g2, g3⟩ := ih (insL o (f a)) (fun x hx => hl x (by simp [hx])) ⟨h1, h2⟩
    exact ⟨g1, g2, by simp only [List.foldl_cons, List.length_cons]; omega⟩
theorem sortL_law (l : List (List UInt8)) : Rises (sortL l) ∧ (∀ x ∈ sortL l, Twelve x) ∧ (sortL l).length ≤ 61 := by
  obtain ⟨h1, h2, h3⟩ := fold_ins (fun s => textU (twelve s)) Twelve (l.take 61) [] (fun x _ hne => ⟨twelve x, rfl, twelve_len x, twelve_ok x, hne⟩) ⟨List.Pairwise.nil, by simp⟩
  refine ⟨h1, h2, Nat.le_trans h3 ?_⟩
  simp
  omega
/-- Small letters alone. -/
def Folded (s : List UInt8) : Prop := ∃ l : List Int, s = textU l ∧ l.length ≤ 12 ∧ (∀ r ∈ l, okU r = true ∧ greatU r = false) ∧ s ≠ []
theorem twelve_text (l : List Int) (h : ∀ r ∈ l, okU r = true) (h2 : l.length ≤ 12) : twelve (textU l) = l := by
  unfold twelve
  rw [runes_text l h, List.filter_eq_self.2, List.take_of_length_le h2]
  intro r hr
  have := h r hr
  unfold okU at this
  simp at this
  simpa using this.1
theorem fold_twelve {s : List UInt8} (h : Twelve s) : ∃ l : List Int, foldU s = textU l ∧ l.length ≤ 12 ∧ ∀ r ∈ l, okU r = true ∧ greatU r = false := by
  obtain ⟨l, rfl, h1, h2, -⟩ := h
  refine ⟨l.map downU, by unfold foldU; rw [runes_text l h2], by simpa using h1, fun r hr => ?_⟩
  obtain ⟨x, hx, rfl⟩ := List.mem_map.1 hr
  exact ⟨down_ok x (h2 x hx), great_down x⟩
/-- The words of a Size's book. -/
def bookWords (l : List (List UInt8)) : List (List UInt8) := sortL ((sortL l).map foldU)
theorem book_law (l : List (List UInt8)) : Rises (bookWords l) ∧ (∀ x ∈ bookWords l, Folded x) ∧ (bookWords l).length ≤ 61 := by
  have h0 := sortL_law l
  obtain ⟨h1, h2, h3⟩ := fold_ins (fun s => textU (twelve s)) Folded (((sortL l).map foldU).take 61) [] (fun x hx hne => by
    obtain ⟨y, hy, rfl⟩ := List.mem_map.1 (List.mem_of_mem_take hx)
    obtain ⟨m, e, e1, e2⟩ := fold_twelve (h0.2.1 y hy)
    rw [e, twelve_text m (fun r hr => (e2 r hr).1) e1] at hne ⊢
    exact ⟨m, rfl, e1, e2, hne⟩) ⟨List.Pairwise.nil, by simp⟩
  refine ⟨h1, h2, Nat.le_trans h3 ?_⟩
  simp
  omega
end Go.Proofs.YtfbbieecdenlbaaGreatDoor
