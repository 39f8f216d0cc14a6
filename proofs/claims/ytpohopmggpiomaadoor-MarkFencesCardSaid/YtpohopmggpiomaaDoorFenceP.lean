/-
  MarkFences, plainly: what lies in a fence is code; what is behind is as it is by itself.
-/
import Derived.Test.YtpohopmggpiomaaDoorMovP
namespace Go.Proofs.YtpohopmggpiomaaDoor
open Go.RowKit

theorem split_app (t : List UInt8) : ∀ (n : Nat) (a : List UInt8), a.length ≤ n → splitL (a ++ [10] ++ t) = splitL (a ++ [10]) ++ splitL t := by
  intro n
  induction n with
  | zero =>
    intro a ha
    obtain rfl : a = [] := List.eq_nil_of_length_eq_zero (by omega)
    have h1 := split_line [] t (by simp)
    have h2 := split_line [] [] (by simp)
    rw [List.nil_append] at h1 h2
    rw [List.nil_append, h1]
    rw [List.append_nil] at h2
    rw [h2, split_nil]
    rfl
  | succ n ih =>
    intro a ha
    by_cases h : ∀ b ∈ a, b ≠ 10
    · have h2 := split_line a [] h
      rw [List.append_nil] at h2
      rw [split_line a t h, h2, split_nil]
      rfl
    · obtain ⟨r, a', he, hr⟩ : ∃ r a', a = r ++ 10 :: a' ∧ ∀ b ∈ r, b ≠ 10 := by
        clear ih ha
        induction a with
        | nil => simp at h
        | cons x a ih =>
          by_cases hx : x = 10
          · subst hx; exact ⟨[], a, rfl, by simp⟩
          · obtain ⟨r, a', he, hr⟩ := ih (by
              intro hh; apply h; intro b hb
              rcases List.mem_cons.1 hb with rfl | hb
              · exact hx
              · exact hh b hb)
            refine ⟨x :: r, a', by rw [he]; rfl, ?_⟩
            intro b hb
            rcases List.mem_cons.1 hb with rfl | hb
            · exact hx
            · exact hr b hb
      subst he
      have e1 : r ++ 10 :: a' ++ [10] ++ t = r ++ [10] ++ (a' ++ [10] ++ t) := by simp
      have e2 : r ++ 10 :: a' ++ [10] = r ++ [10] ++ (a' ++ [10]) := by simp
      rw [e1, e2, split_line r _ hr, split_line r _ hr, ih a' (by simp at ha; omega)]
      rfl

theorem lexN_inside (P : Nat → Nat → List Int → Nat × List Int) (l : List UInt8) (c : UInt8) (k : Nat) (r : List (List UInt8)) : ∀ (rows : List (List UInt8)) (i a : Nat) (L : List Int), (∀ s ∈ rows, closesL s c k = false) → 
    lexN P l 0 (rows ++ r) i a ⟨some (c, k), false, false⟩ L = lexN P l 0 r (i + rows.length) (a + rows.flatten.length) ⟨some (c, k), false, false⟩ (putR L a (a + rows.flatten.length) 4) := by
  intro rows
  induction rows with
  | nil => intro i a L _; simp [putR_nil]
  | cons s rows ih =>
    intro i a L h
    rw [List.cons_append, lexN, if_neg (by omega)]
    have hs := h s (List.mem_cons_self ..)
    have e : lineStep P l s a (a + s.length) ⟨some (c, k), false, false⟩ L = (⟨some (c, k), false, false⟩, putR L a (a + s.length) 4) := by
      simp only [lineStep, hs]
      rfl
    rw [e, ih _ _ _ (fun x hx => h x (List.mem_cons_of_mem _ hx)), putR_join _ _ _ _ _ (by omega) (by omega)]
    simp only [List.length_cons, List.flatten_cons, List.length_append]
    rw [Nat.add_assoc i, Nat.add_comm 1, Nat.add_assoc a]

theorem mem_trimL {s : List UInt8} {b : UInt8} (h : b ∈ trimL s) : b ∈ s := (trimL_prefix s).subset h
theorem mem_cutL {s : List UInt8} {b c : UInt8} (h : b ∈ cutL s c) : b ∈ s := (List.dropWhile_suffix _).subset h
theorem cutR_none {l : List UInt8} {c : UInt8} (h : ∀ b ∈ l, b ≠ c) : cutR l c = l := by
  unfold cutR
  have : ∀ q : List UInt8, (∀ b ∈ q, b ≠ c) → q.dropWhile (· == c) = q := by
    intro q hq
    cases q with
    | nil => rfl
    | cons x q =>
      rw [List.dropWhile_cons_of_neg]
      simpa using hq x (List.mem_cons_self ..)
  rw [this _ (fun b hb => h b (List.mem_reverse.1 hb)), List.reverse_reverse]
theorem closes_clean (s : List UInt8) (c : UInt8) (k : Nat) (hk : 0 < k) (h : ∀ b ∈ s, b ≠ c) : closesL s c k = false := by
  unfold closesL
  have hq : ∀ b ∈ cutL (trimL s) 32, b ≠ c := fun b hb => h b (mem_trimL (mem_cutL hb))
  generalize cutL (trimL s) 32 = q at hq
  rw [cutL_none hq, cutR_none hq]
  by_cases hl : k ≤ q.length
  · have : q.isEmpty = false := by
      cases q with
      | nil => simp at hl; omega
      | cons x q => rfl
    rw [this]; simp
  · rw [decide_eq_false hl]; simp

/-- The signs of a fence. -/
def Sgn (c : UInt8) : Prop := c = 96 ∨ c = 126
theorem trim_fence {c : UInt8} (hc : Sgn c) (k : Nat) : trimL (List.replicate k c ++ [10]) = List.replicate k c := by
  unfold trimL Lib.trimRightS
  rw [List.reverse_append, List.reverse_replicate]
  have : ([32, 9, 13, 10] : List UInt8).contains c = false := by rcases hc with rfl | rfl <;> decide
  cases k with
  | zero => rfl
  | succ k =>
    have e : [10].reverse ++ List.replicate (k + 1) c = 10 :: c :: List.replicate k c := by rw [List.replicate_succ]; rfl
    rw [e, List.dropWhile_cons_of_pos (by decide), List.dropWhile_cons_of_neg (by rw [this]; decide), ← List.replicate_succ, List.reverse_replicate]
theorem cut_fence (c : UInt8) (k : Nat) (t : List UInt8) (ht : ∀ b ∈ t, b ≠ c) : cutL (List.replicate k c ++ t) c = t := by
  unfold cutL
  induction k with
  | zero =>
    rw [List.replicate_zero, List.nil_append]
    exact cutL_none ht
  | succ k ih => rw [List.replicate_succ, List.cons_append, List.dropWhile_cons_of_pos (by simp), ih]
theorem cut_other {c d : UInt8} (h : c ≠ d) (k : Nat) (t : List UInt8) (hk : 0 < k) : cutL (List.replicate k c ++ t) d = List.replicate k c ++ t := by
  unfold cutL
  cases k with
  | zero => omega
  | succ k => rw [List.replicate_succ, List.cons_append, List.dropWhile_cons_of_neg (by simpa using h)]
theorem indent_fence {c : UInt8} (hc : Sgn c) (k : Nat) (hk : 0 < k) (t : List UInt8) : indentL (List.replicate k c ++ t) = 0 := by
  cases k with
  | zero => omega
  | succ k =>
    have h0 : bt (List.replicate (k + 1) c ++ t) 0 = c.toNat := by rw [List.replicate_succ, List.cons_append, bt_cons_zero]
    have h32 : bt (List.replicate (k + 1) c ++ t) 0 ≠ 32 ∧ bt (List.replicate (k + 1) c ++ t) 0 ≠ 9 := by
      rw [h0]; rcases hc with rfl | rfl <;> decide
    unfold indentL
    rw [indN_stop _ _ _ (fun h => h32.1 h.2.2), indK, if_neg (fun h => h32.2 h.2.2)]
theorem closes_fenceP {c : UInt8} (hc : Sgn c) (k : Nat) (hk : 3 ≤ k) : closesL (List.replicate k c ++ [10]) c k = true := by
  unfold closesL
  have h32 : c ≠ 32 := by rcases hc with rfl | rfl <;> decide
  have e := cut_other h32 k [] (by omega)
  have e2 := cut_fence c k [] (by simp)
  rw [List.append_nil] at e e2
  rw [indent_fence hc k (by omega), trim_fence hc, e, e2, List.length_replicate]
  simp [cutR]
theorem opens_fence {c : UInt8} (hc : Sgn c) (k : Nat) (hk : 3 ≤ k) : opensL (List.replicate k c ++ [10]) = some (c, k) := by
  unfold opensL
  rw [indent_fence hc k (by omega), if_pos (by omega), List.drop_zero]
  unfold fenceAt
  rcases hc with rfl | rfl
  · rw [cut_fence 96 k [10] (by decide), if_pos ⟨by simp; omega, by decide⟩]
    simp
  · rw [cut_other (by decide) k [10] (by omega), cut_fence 126 k [10] (by decide), if_neg (by simp), if_pos (by simp; omega)]
    simp

theorem lex_first (P : Nat → Nat → List Int → Nat × List Int) (l t : List UInt8) (x : UInt8) (hx : x = 120 ∨ x = 121) (hl : l = x :: 10 :: t) (r : List (List UInt8)) (L : List Int) :
    lexN P l 0 ([x, 10] :: r) 0 0 ⟨none, false, true⟩ L = lexN P l 0 r 1 2 ⟨none, false, false⟩ L := by
  have h0 : bt l 0 = x.toNat := by rw [hl, bt_cons_zero]
  have h1 : bt l 1 = 10 := by rw [hl, bt_cons_succ, bt_cons_zero]; rfl
  have hi : inlL (P 2) l 0 2 L = L := by
    unfold inlL
    have e0 : inlStep (P 2) l 2 0 L = (1, L) := by
      unfold inlStep
      rw [h0]
      rcases hx with rfl | rfl <;> simp
    have e1 : inlStep (P 2) l 2 1 L = (2, L) := by
      unfold inlStep
      rw [h1]
      simp
    rw [show 2 - 0 = 0 + 1 + 1 by omega, inlN, if_pos (by omega), e0, inlN, if_pos (by simp), e1]
    rfl
  rw [lexN, if_neg (by omega)]
  have : lineStep P l [x, 10] 0 (0 + [x, 10].length) ⟨none, false, true⟩ L = (⟨none, false, false⟩, L) := by
    have e : 0 + [x, 10].length = 2 := rfl
    rw [e]
    have a1 : trimL [x, 10] ≠ [] := by rcases hx with rfl | rfl <;> decide
    have a2 : ¬ 3 < indentL [x, 10] := by rcases hx with rfl | rfl <;> decide
    have a3 : opensL [x, 10] = none := by rcases hx with rfl | rfl <;> decide
    have a4 : refersL [x, 10] = false := by rcases hx with rfl | rfl <;> decide
    simp only [lineStep]
    rw [if_neg a1, if_neg (fun h => a2 h.1), if_neg (by rw [a3]; simp), a4, hi]
    rfl
  rw [this]
  rfl

def fen (c : UInt8) (k : Nat) (clean : List UInt8) : List UInt8 := [120, 10] ++ (List.replicate k c ++ [10] ++ (clean ++ [10] ++ (List.replicate k c ++ [10])))
theorem fence_rows {c : UInt8} (hc : Sgn c) (k : Nat) (clean behind : List UInt8) : splitL (fen c k clean ++ behind) = [120, 10] :: (List.replicate k c ++ [10]) :: (splitL (clean ++ [10]) ++ ((List.replicate k c ++ [10]) :: splitL behind)) := by
  have hn : ∀ b ∈ List.replicate k c, b ≠ 10 := by
    intro b hb
    rw [(List.mem_replicate.1 hb).2]
    rcases hc with rfl | rfl <;> decide
  have e1 : fen c k clean ++ behind = [120] ++ [10] ++ (List.replicate k c ++ [10] ++ (clean ++ [10] ++ (List.replicate k c ++ [10] ++ behind))) := by simp [fen]
  rw [e1, split_line [120] _ (by decide), split_line _ _ hn, split_app _ _ clean (Nat.le_refl _), split_line _ _ hn]
  rfl

theorem putR_left (A B : List Int) (i j : Nat) (x : Int) (h : j ≤ A.length) : putR (A ++ B) i j x = putR A i j x ++ B := by
  apply List.ext_getElem (by simp [putR])
  intro k h1 h2
  simp only [putR, List.getElem_mapIdx, List.getElem_append, List.length_mapIdx]
  by_cases h : k < A.length
  · simp only [h, dif_pos]
  · simp only [h, dif_neg, not_false_eq_true]
    rw [if_neg (by omega)]

/-- What lies behind, by itself. -/
def behL (s : List UInt8) : List Int := lexN (pntL s) s 0 (splitL s) 0 0 ⟨none, false, false⟩ (List.replicate s.length 1)

theorem lexN_length (P : Nat → Nat → List Int → Nat × List Int) (l : List UInt8) (skip : Nat) (hP : ∀ to, to ≤ l.length → POk (P to) l to) : ∀ (rows : List (List UInt8)) (i a : Nat) (st : St) (L : List Int), a + rows.flatten.length ≤ l.length → (lexN P l skip rows i a st L).length = L.length := by
  have hin : ∀ to, to ≤ l.length → ∀ d k L, (inlN (P to) l to d k L).length = L.length := by
    intro to hto d
    induction d with
    | zero => intro k L; rfl
    | succ d ih =>
      intro k L
      rw [inlN]
      split
      · rename_i hk
        rw [ih, (inlStep_bound (hP to hto) k L hk).2.2]
      · rfl
  intro rows
  induction rows with
  | nil => intro i a st L _; rfl
  | cons s rows ih =>
    intro i a st L h
    simp only [List.flatten_cons, List.length_append] at h
    rw [lexN]
    split
    · rw [ih _ _ _ _ (by omega), putR_length]
    · rw [ih _ _ _ _ (by omega)]
      unfold lineStep
      cases st.fence with
      | some q => exact putR_length _ _ _ _
      | none =>
        simp only
        split
        · rfl
        · split
          · exact putR_length _ _ _ _
          · split
            · exact putR_length _ _ _ _
            · split
              · exact putR_length _ _ _ _
              · exact hin _ (by omega) _ _ _
theorem behL_length (s : List UInt8) : (behL s).length = s.length := by
  unfold behL
  rw [lexN_length _ _ _ (fun to h => pntL_ok s to h) _ _ _ _ _ (by rw [split_flat]; omega), List.length_replicate]

theorem mark_fence {c : UInt8} (hc : Sgn c) (k : Nat) (hk : 3 ≤ k) (clean behind : List UInt8) (hcl : ∀ b ∈ clean, b ≠ c) :
    markL (pntL (fen c k clean ++ behind)) (fen c k clean ++ behind) = putR (List.replicate (fen c k clean).length 1) 2 (fen c k clean).length 4 ++ behL behind := by
  unfold markL
  have h0 : bt (fen c k clean ++ behind) 0 ≠ 45 := by
    have : bt (fen c k clean ++ behind) 0 = 120 := rfl
    rw [this]; decide
  have hs10 : (10 : UInt8) ≠ c := by rcases hc with rfl | rfl <;> decide
  rw [front_first _ h0, fence_rows hc]
  rw [lex_first _ _ (List.replicate k c ++ [10] ++ (clean ++ [10] ++ (List.replicate k c ++ [10])) ++ behind) 120 (.inl rfl) (by simp [fen])]
  generalize hP : pntL (fen c k clean ++ behind) = P
  generalize hl : fen c k clean ++ behind = l at hP
  rw [lexN, if_neg (by omega)]
  have ho := opens_fence hc k hk
  have e1 : ∀ a b L, lineStep P l (List.replicate k c ++ [10]) a b ⟨none, false, false⟩ L = (⟨some (c, k), false, false⟩, putR L a b 4) := by
    intro a b L
    have t1 : trimL (List.replicate k c ++ [10]) ≠ [] := by
      rw [trim_fence hc]
      cases k with
      | zero => omega
      | succ k => rw [List.replicate_succ]; simp
    simp only [lineStep]
    rw [if_neg t1, if_neg (by simp), ho, if_pos (by simp)]
  have e2 : ∀ a b L, lineStep P l (List.replicate k c ++ [10]) a b ⟨some (c, k), false, false⟩ L = (⟨none, false, false⟩, putR L a b 4) := by
    intro a b L
    simp only [lineStep, closes_fenceP hc k hk]
    rfl
  rw [e1, lexN_inside _ _ _ _ _ _ _ _ _ (by
    intro s hs
    refine closes_clean s c k (by omega) ?_
    intro b hb
    have hm : b ∈ (splitL (clean ++ [10])).flatten := List.mem_flatten.2 ⟨s, hs, hb⟩
    rw [split_flat, List.mem_append, List.mem_singleton] at hm
    rcases hm with hm | rfl
    · exact hcl b hm
    · exact hs10)]
  rw [lexN, if_neg (by omega), e2, split_flat, putR_join _ _ _ _ _ (by omega) (by omega), putR_join _ _ _ _ _ (by omega) (by omega)]
  have hlen : (fen c k clean).length = 2 + (List.replicate k c ++ [10]).length + (clean ++ [10]).length + (List.replicate k c ++ [10]).length := by simp [fen]; omega
  rw [← hlen, ← hl, List.length_append, ← List.replicate_append_replicate, putR_left _ _ _ _ _ (by simp)]
  rw [← hP, ← hl]
  have := lexN_pre (fen c k clean) behind (putR (List.replicate (fen c k clean).length 1) 2 (fen c k clean).length 4) (by rw [putR_length, List.length_replicate]) (splitL behind) (1 + 1 + (splitL (clean ++ [10])).length + 1) 0 0 ⟨none, false, false⟩ (List.replicate behind.length 1)
  rw [Nat.add_zero] at this
  exact this

theorem mark_other (behind : List UInt8) : markL (pntL ([121, 10] ++ behind)) ([121, 10] ++ behind) = [1, 1] ++ behL behind := by
  unfold markL
  have h0 : bt ([121, 10] ++ behind) 0 ≠ 45 := by
    have : bt ([121, 10] ++ behind) 0 = 121 := rfl
    rw [this]; decide
  have hsp := split_line [121] behind (by decide)
  rw [front_first _ h0]
  rw [show ([121] ++ [10] ++ behind : List UInt8) = [121, 10] ++ behind from rfl] at hsp
  rw [hsp]
  have := lex_first (pntL ([121, 10] ++ behind)) ([121, 10] ++ behind) behind 121 (.inr rfl) rfl (splitL behind) (List.replicate ([121, 10] ++ behind).length 1)
  rw [show ([121] ++ [10] : List UInt8) = [121, 10] from rfl, this]
  have h2 := lexN_pre [121, 10] behind [1, 1] rfl (splitL behind) 1 0 0 ⟨none, false, false⟩ (List.replicate behind.length 1)
  rw [Nat.add_zero] at h2
  exact h2
end Go.Proofs.YtpohopmggpiomaaDoor
