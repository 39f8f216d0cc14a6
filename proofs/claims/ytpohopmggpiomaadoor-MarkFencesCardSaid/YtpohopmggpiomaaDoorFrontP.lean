/-
  Front matter: the plain law.
-/
import Derived.Test.YtpohopmggpiomaaDoorFront
import Derived.Test.YtpohopmggpiomaaDoorPlainP
namespace Go.Proofs.YtpohopmggpiomaaDoor
open Go.RowKit

theorem begs_pre (r t : List UInt8) (hr : ∀ b ∈ r, b ≠ 10) : ∀ k, k ≤ r.length → begs (r ++ t) k = [0] := by
  intro k
  induction k with
  | zero => intro _; rfl
  | succ k ih =>
    intro hk
    rw [begs, ih (by omega), if_neg]
    rw [bt_append_left _ _ _ (by omega)]
    obtain ⟨b, hb, e⟩ := bt_mem r k (by omega)
    rw [e]
    intro e2
    exact hr b hb (UInt8.toNat_inj.1 (by simp; omega))

theorem begs_line (r t : List UInt8) (hr : ∀ b ∈ r, b ≠ 10) : ∀ k, begs (r ++ [10] ++ t) ((r ++ [10]).length + k) = 0 :: (begs t k).map ((r ++ [10]).length + ·) := by
  intro k
  induction k with
  | zero =>
    rw [Nat.add_zero, List.length_append, List.append_assoc, List.length_singleton]
    have h1 : begs (r ++ ([10] ++ t)) (r.length + 1) = if bt (r ++ ([10] ++ t)) r.length = 10 then begs (r ++ ([10] ++ t)) r.length ++ [r.length + 1] else begs (r ++ ([10] ++ t)) r.length := rfl
    rw [h1, begs_pre r _ hr _ (Nat.le_refl _), if_pos]
    · simp [begs]
    · have := bt_append_right r ([10] ++ t) 0
      rw [Nat.add_zero] at this
      rw [this]; rfl
  | succ k ih =>
    rw [← Nat.add_assoc, begs, ih, bt_append_right, begs]
    split <;> simp [Nat.add_assoc]

theorem len_line (r t : List UInt8) : (r ++ [10] ++ t).length = (r ++ [10]).length + t.length := List.length_append

theorem nb_line (r t : List UInt8) (hr : ∀ b ∈ r, b ≠ 10) : nb (r ++ [10] ++ t) = nb t + 1 := by
  unfold nb
  rw [len_line, begs_line r t hr]; simp

theorem bg_line (r t : List UInt8) (hr : ∀ b ∈ r, b ≠ 10) (j : Nat) (hj : j < nb t) : bg (r ++ [10] ++ t) (j + 1) = (r ++ [10]).length + bg t j := by
  unfold bg
  unfold nb at hj
  rw [len_line, begs_line r t hr]
  simp [List.getD_eq_getElem?_getD, hj]

theorem nLines_line (r t : List UInt8) (hr : ∀ b ∈ r, b ≠ 10) : nLines (r ++ [10] ++ t) = nLines t + 1 := by
  have hp := nb_pos t
  unfold nLines
  rw [nb_line r t hr, Nat.add_sub_cancel]
  have h := bg_line r t hr (nb t - 1) (by omega)
  rw [Nat.sub_add_cancel hp] at h
  rw [h, len_line]
  split
  · rw [if_pos (by omega)]; omega
  · rw [if_neg (by omega)]

theorem lend_line (r t : List UInt8) (hr : ∀ b ∈ r, b ≠ 10) (j : Nat) : lend (r ++ [10] ++ t) (j + 1) = (r ++ [10]).length + lend t j := by
  unfold lend
  rw [nb_line r t hr]
  split
  · rw [if_pos (by omega), bg_line r t hr _ (by omega)]
  · rw [if_neg (by omega), len_line]

theorem split_line (r t : List UInt8) (hr : ∀ b ∈ r, b ≠ 10) : splitL (r ++ [10] ++ t) = (r ++ [10]) :: splitL t := by
  unfold splitL splitTo
  rw [nLines_line r t hr, List.range_succ_eq_map, List.map_cons, List.map_map]
  congr 1
  · rw [bg_zero]
    have hp := nb_pos t
    have h0 := bg_line r t hr 0 hp
    have : lend (r ++ [10] ++ t) 0 = (r ++ [10]).length := by
      unfold lend
      rw [if_pos (by rw [nb_line r t hr]; omega), h0, bg_zero]; rfl
    rw [this, List.drop_zero, Nat.sub_zero, List.take_left]
  · apply List.map_congr_left
    intro j hj
    have hj' : j < nLines t := List.mem_range.1 hj
    have hnl : nLines t ≤ nb t := by unfold nLines; split <;> omega
    simp only [Function.comp]
    show List.take (lend (r ++ [10] ++ t) (j + 1) - bg (r ++ [10] ++ t) (j + 1)) (List.drop (bg (r ++ [10] ++ t) (j + 1)) (r ++ [10] ++ t)) = _
    rw [lend_line r t hr, bg_line r t hr j (by omega), ← List.drop_drop, List.drop_left]
    congr 1; omega

theorem split_nil : splitL [] = [] := by decide +kernel

theorem split_of (ls : List (List UInt8)) (h : ∀ s ∈ ls, ∃ r, s = r ++ [10] ∧ ∀ b ∈ r, b ≠ 10) : splitL ls.flatten = ls := by
  induction ls with
  | nil => exact split_nil
  | cons s ls ih =>
    obtain ⟨r, rfl, hr⟩ := h s (by simp)
    rw [List.flatten_cons, split_line r _ hr, ih fun s hs => h s (by simp [hs])]

theorem frontN_hit (ls : List (List UInt8)) (m : Nat) (hm : m < ls.length) (hd : trimL (lnth ls m) = dash) (hn : ∀ j, 0 < j → j < m → trimL (lnth ls j) ≠ dash) : ∀ d i, 0 < i → i ≤ m → m < i + d → frontN ls d i = m + 1 := by
  intro d
  induction d with
  | zero => intro i _ h1 h2; omega
  | succ d ih =>
    intro i h0 h1 h2
    rw [frontN, if_pos (by omega)]
    by_cases e : i = m
    · subst e; rw [if_pos hd, if_pos h0]
    · rw [if_neg (hn i h0 (by omega)), if_neg (by omega), ih _ (by omega) (by omega) (by omega)]

theorem frontN_miss (ls : List (List UInt8)) (hn : ∀ j, 0 < j → j < ls.length → trimL (lnth ls j) ≠ dash) : ∀ d i, 0 < i → frontN ls d i = 0 := by
  intro d
  induction d with
  | zero => intro i _; rfl
  | succ d ih =>
    intro i h0
    rw [frontN]
    split
    · rename_i hi
      rw [if_neg (hn i h0 hi), if_neg (by omega), ih _ (by omega)]
    · rfl

theorem putR_join (L : List Int) (a b c : Nat) (x : Int) (h1 : a ≤ b) (h2 : b ≤ c) : putR (putR L a b x) b c x = putR L a c x := by
  apply List.ext_getElem (by simp [putR])
  intro k _ _
  simp only [putR, List.getElem_mapIdx]
  split
  · split
    · rfl
    · omega
  · split
    · split
      · rfl
      · omega
    · split
      · omega
      · rfl

theorem lexN_front (P : Nat → Nat → List Int → Nat × List Int) (l : List UInt8) (skip : Nat) (st : St) (r : List (List UInt8)) : ∀ (A : List (List UInt8)) (i a : Nat) (L : List Int), i + A.length ≤ skip → a + A.flatten.length ≤ L.length →
    lexN P l skip (A ++ r) i a st L = lexN P l skip r (i + A.length) (a + A.flatten.length) st (putR L a (a + A.flatten.length) 4) := by
  intro A
  induction A with
  | nil => intro i a L _ _; simp [putR_nil]
  | cons s A ih =>
    intro i a L h1 h2
    simp only [List.length_cons, List.flatten_cons, List.length_append] at h1 h2
    rw [List.cons_append, lexN, if_pos (by omega), ih _ _ _ (by omega) (by rw [putR_length]; omega), putR_join _ _ _ _ _ (by omega) (by omega)]
    simp only [List.length_cons, List.flatten_cons, List.length_append]
    rw [Nat.add_assoc i, Nat.add_comm 1, Nat.add_assoc a]

def wordB : List UInt8 := [119, 111, 114, 100, 10]

theorem mark_front {l : List UInt8} (A : List (List UInt8)) (hl : l = A.flatten ++ wordB) (hA : ∀ s ∈ A, ∃ r, s = r ++ [10] ∧ ∀ b ∈ r, b ≠ 10) (hq : Quiet l)
    (hlen : 2 ≤ A.length) (h0 : trimL (lnth A 0) = dash) (hlast : trimL (lnth A (A.length - 1)) = dash) (hn : ∀ j, 0 < j → j < A.length - 1 → trimL (lnth A j) ≠ dash) (P : Nat → Nat → List Int → Nat × List Int) :
    markL P l = putR (List.replicate l.length 1) 0 A.flatten.length 4 := by
  have hs : splitL l = A ++ [wordB] := by
    have := split_of (A ++ [wordB]) (by
      intro s hs
      rcases List.mem_append.1 hs with h | h
      · exact hA s h
      · simp at h; subst h; exact ⟨[119, 111, 114, 100], rfl, by decide⟩)
    rw [← this, hl]; simp
  have hget : ∀ j, j < A.length → lnth (A ++ [wordB]) j = lnth A j := by
    intro j hj
    unfold lnth
    rw [List.getD_eq_getElem?_getD, List.getD_eq_getElem?_getD, List.getElem?_append_left hj]
  have hf : frontL (A ++ [wordB]) = A.length := by
    unfold frontL
    rw [frontN, if_pos (by simp), hget 0 (by omega), if_pos h0, if_neg (by omega)]
    rw [frontN_hit _ (A.length - 1) (by simp; omega) (by rw [hget _ (by omega)]; exact hlast) (fun j h1 h2 => by rw [hget _ (by omega)]; exact hn j h1 h2) _ 1 (by omega) (by omega) (by simp; omega)]
    omega
  have hll : l.length = A.flatten.length + 5 := by rw [hl]; simp [wordB]
  unfold markL
  rw [hs, hf, lexN_front P l _ _ [wordB] A 0 0 _ (by omega) (by rw [List.length_replicate, hll]; omega)]
  simp only [Nat.zero_add]
  rw [lexN, if_neg (by omega), lexN]
  rw [lineStep_none, if_neg (by decide +kernel), if_neg (by intro h; exact absurd h.1 (by decide +kernel)), if_neg (by decide +kernel), if_neg (by decide +kernel)]
  show inlL (P _) l _ _ _ = _
  exact inlN_quiet hq _ _ (by rw [hll]; simp [wordB]) _ _ _

/-- The lines between. -/
def bodyTo (cs E : List UInt8) : Nat → List (List UInt8)
  | 0 => []
  | k + 1 => if k < 20 then bodyTo cs E k ++ [pieceF (bt cs k % 5).toNat ++ E] else bodyTo cs E k

theorem body_flat (cs E : List UInt8) (k : Nat) : frontTo cs E k = (([45, 45, 45] ++ E) :: bodyTo cs E k).flatten := by
  induction k with
  | zero => simp [frontTo, bodyTo]
  | succ k ih =>
    rw [frontTo, bodyTo]
    split
    · rw [ih]; simp
    · exact ih

theorem body_mem (cs E : List UInt8) (k : Nat) : ∀ s ∈ bodyTo cs E k, ∃ n, s = pieceF n ++ E := by
  induction k with
  | zero => intro s hs; simp [bodyTo] at hs
  | succ k ih =>
    rw [bodyTo]
    split
    · intro s hs
      rcases List.mem_append.1 hs with h | h
      · exact ih s h
      · simp at h; exact ⟨_, h⟩
    · exact ih

def EndOk (E : List UInt8) : Prop := E = [10] ∨ E = [32, 13, 10]

theorem trim_dash {E : List UInt8} (h : EndOk E) : trimL ([45, 45, 45] ++ E) = dash := by
  rcases h with rfl | rfl <;> decide +kernel

theorem trim_body {E : List UInt8} (h : EndOk E) (n : Nat) : trimL (pieceF n ++ E) ≠ dash := by
  unfold pieceF
  rcases h with rfl | rfl <;> split <;> decide +kernel

theorem line_body {E : List UInt8} (h : EndOk E) (n : Nat) : ∃ r, pieceF n ++ E = r ++ [10] ∧ ∀ b ∈ r, b ≠ 10 := by
  unfold pieceF
  rcases h with rfl | rfl
  · split <;> exact ⟨_, rfl, by decide⟩
  · split
    · exact ⟨[97, 58, 32, 98, 32, 13], rfl, by decide⟩
    · exact ⟨[120, 32, 13], rfl, by decide⟩
    · exact ⟨[32, 32, 121, 32, 13], rfl, by decide⟩
    · exact ⟨[45, 45, 32, 45, 32, 13], rfl, by decide⟩
    · exact ⟨[32, 13], rfl, by decide⟩

theorem line_dash {E : List UInt8} (h : EndOk E) : ∃ r, [45, 45, 45] ++ E = r ++ [10] ∧ ∀ b ∈ r, b ≠ 10 := by
  rcases h with rfl | rfl
  · exact ⟨[45, 45, 45], rfl, by decide⟩
  · exact ⟨[45, 45, 45, 32, 13], rfl, by decide⟩

theorem Quiet.app {a b : List UInt8} (ha : Quiet a) (hb : Quiet b) : Quiet (a ++ b) := by
  intro x hx
  rcases List.mem_append.1 hx with h | h
  · exact ha x h
  · exact hb x h

theorem endQuiet {E : List UInt8} (h : EndOk E) : Quiet E := by
  unfold Quiet
  rcases h with rfl | rfl <;> decide

theorem lnth_last (A : List (List UInt8)) (x : List UInt8) : lnth (A ++ [x]) ((A ++ [x]).length - 1) = x := by
  unfold lnth
  rw [List.getD_eq_getElem?_getD, List.length_append, List.length_singleton, Nat.add_sub_cancel, List.getElem?_append_right (Nat.le_refl _)]; simp

theorem front_quiet {E : List UInt8} (h : EndOk E) (cs : List UInt8) (k : Nat) : Quiet (frontTo cs E k) := by
  have hp : ∀ n, Quiet (pieceF n) := by
    intro n
    unfold Quiet pieceF
    split <;> decide
  induction k with
  | zero => rw [frontTo]; exact Quiet.app (by unfold Quiet; decide) (endQuiet h)
  | succ k ih =>
    rw [frontTo]
    split
    · exact ih.app ((hp _).app (endQuiet h))
    · exact ih

theorem front_sp {E : List UInt8} (h : EndOk E) (cs : List UInt8) (k : Nat) : (frontTo cs E k).foldl spStep (0, true) = (0, true) := by
  induction k with
  | zero => rw [frontTo]; rcases h with rfl | rfl <;> decide
  | succ k ih =>
    rw [frontTo]
    split
    · rw [List.foldl_append, ih]
      unfold pieceF
      rcases h with rfl | rfl <;> split <;> decide
    · exact ih

/-- With an end. -/
theorem front_ends {E : List UInt8} (h : EndOk E) (cs B : List UInt8) (hB : B = frontTo cs E cs.length ++ ([45, 45, 45] ++ E ++ wordB)) (P : Nat → Nat → List Int → Nat × List Int) :
    markL P B = putR (List.replicate B.length 1) 0 ((frontTo cs E cs.length).length + 3 + E.length) 4 := by
  have hl : B = ((([45, 45, 45] ++ E) :: bodyTo cs E cs.length) ++ [[45, 45, 45] ++ E]).flatten ++ wordB := by
    rw [hB, body_flat, List.flatten_append]
    simp
  have := mark_front _ hl (by
    intro s hs
    rcases List.mem_append.1 hs with hs | hs
    · rcases List.mem_cons.1 hs with rfl | hs
      · exact line_dash h
      · obtain ⟨n, rfl⟩ := body_mem _ _ _ s hs
        exact line_body h n
    · simp at hs; subst hs; exact line_dash h) (by
      rw [hB]
      exact (front_quiet h _ _).app ((Quiet.app (by unfold Quiet; decide) (endQuiet h)).app (by unfold Quiet wordB; decide)))
    (by simp) (by simp [lnth]; exact trim_dash h)
    (by
      rw [lnth_last]
      exact trim_dash h)
    (by
      intro j h1 h2
      obtain ⟨i, rfl⟩ : ∃ i, j = i + 1 := ⟨j - 1, by omega⟩
      simp only [List.length_append, List.length_cons, List.length_nil, Nat.zero_add, Nat.add_sub_cancel] at h2
      have hi : i < (bodyTo cs E cs.length).length := by omega
      have : lnth ((([45, 45, 45] ++ E) :: bodyTo cs E cs.length) ++ [[45, 45, 45] ++ E]) (i + 1) = (bodyTo cs E cs.length)[i] := by
        simp [lnth, List.getD_eq_getElem?_getD, List.getElem?_append_left, hi]
      rw [this]
      obtain ⟨n, e⟩ := body_mem cs E cs.length _ (List.getElem_mem hi)
      rw [e]
      exact trim_body h n) P
  rw [this]
  congr 1
  rw [List.flatten_append, ← body_flat]
  simp; omega

/-- Without an end. -/
theorem front_open {E : List UInt8} (h : EndOk E) (cs B : List UInt8) (hB : B = frontTo cs E cs.length ++ wordB) (P : Nat → Nat → List Int → Nat × List Int) :
    markL P B = List.replicate B.length 1 := by
  have hl : B = ((([45, 45, 45] ++ E) :: bodyTo cs E cs.length) ++ [wordB]).flatten := by
    rw [hB, body_flat, List.flatten_append]
    simp
  have hq : Quiet B := by
    rw [hB]
    exact (front_quiet h _ _).app (by unfold Quiet wordB; decide)
  have h4 : NoFour B := by
    apply noFour_of
    rw [hB, List.foldl_append, front_sp h]
    decide
  have hs : splitL B = (([45, 45, 45] ++ E) :: bodyTo cs E cs.length) ++ [wordB] := by
    rw [hl]
    apply split_of
    intro s hs
    rcases List.mem_append.1 hs with hs | hs
    · rcases List.mem_cons.1 hs with rfl | hs
      · exact line_dash h
      · obtain ⟨n, rfl⟩ := body_mem _ _ _ s hs
        exact line_body h n
    · simp at hs; subst hs; exact ⟨[119, 111, 114, 100], rfl, by decide⟩
  have hf : frontL (splitL B) = 0 := by
    rw [hs]
    unfold frontL
    rw [frontN, if_pos (by simp), show lnth ((([45, 45, 45] ++ E) :: bodyTo cs E cs.length) ++ [wordB]) 0 = [45, 45, 45] ++ E from rfl, if_pos (trim_dash h), if_neg (by omega)]
    refine frontN_miss _ ?_ _ _ (by omega)
    intro j h1 h2
    obtain ⟨i, rfl⟩ : ∃ i, j = i + 1 := ⟨j - 1, by omega⟩
    simp only [List.length_append, List.length_cons, List.length_nil, Nat.zero_add] at h2
    by_cases hi : i < (bodyTo cs E cs.length).length
    · have : lnth ((([45, 45, 45] ++ E) :: bodyTo cs E cs.length) ++ [wordB]) (i + 1) = (bodyTo cs E cs.length)[i] := by
        simp [lnth, List.getD_eq_getElem?_getD, List.getElem?_append_left, hi]
      rw [this]
      obtain ⟨n, e⟩ := body_mem cs E cs.length _ (List.getElem_mem hi)
      rw [e]
      exact trim_body h n
    · obtain rfl : i = (bodyTo cs E cs.length).length := by omega
      have : lnth ((([45, 45, 45] ++ E) :: bodyTo cs E cs.length) ++ [wordB]) ((bodyTo cs E cs.length).length + 1) = wordB := by
        unfold lnth; rw [List.getD_eq_getElem?_getD, List.getElem?_append_right (by simp)]; simp
      rw [this]
      decide +kernel
  unfold markL
  rw [hf]
  exact lexN_same hq h4 P (splitL B) [] 0 _ _ (by simp [split_flat]) rfl

theorem nth_replicate (n : Nat) (x : Int) (k : Nat) (h : k < n) : nth (List.replicate n x) k = x := by simp [nth, h]

theorem Quiet.no60 {l : List UInt8} (h : Quiet l) : ∀ k, k < l.length → bt l k ≠ 60 := fun k hk => (h.at k hk).2.2.2.2.2.1

theorem front_B_quiet {E : List UInt8} (h : EndOk E) (cs R : List UInt8) (hR : Quiet R) : Quiet (frontTo cs E cs.length ++ R) := (front_quiet h _ _).app hR

theorem markFront_calls (cs : List UInt8) (v : Value) (ends crlf : Bool) (w : World) (hE : Env w) (hv : BytesV w v cs) :
    Calls Tryd.prog 6 #[v, .bool ends, .bool crlf] w fun e w' => e = .returned (.bool true) ∧ Below w.heap.size w w' := by
  cases crlf <;> cases ends
  · have hm := front_open (.inl rfl) cs _ rfl P0
    refine (front_walk_ff cs _ v w hE hv rfl ?_ ?_ ?_ ?_).mono fun _ _ ⟨h1, h2⟩ => ⟨h1, h2.below⟩
    · exact (congrArg List.length hm).trans (by simp [wordB])
    · exact (congrArg (nth · 0) hm).trans (nth_replicate _ _ _ (by simp [wordB]))
    · exact (congrArg (nth · _) hm).trans (nth_replicate _ _ _ (by simp [wordB]))
    · exact (front_B_quiet (.inl rfl) cs _ (by unfold Quiet; decide)).no60
  · have hm := front_ends (.inl rfl) cs _ rfl P0
    refine (front_walk_tf cs _ v w hE hv rfl ?_ ?_ ?_ ?_).mono fun _ _ ⟨h1, h2⟩ => ⟨h1, h2.below⟩
    · exact (congrArg List.length hm).trans (by simp [putR_length, wordB])
    · intro j hj
      refine (congrArg (nth · j) hm).trans ?_
      rw [putR_get _ _ _ _ _ (by simp; omega), if_pos (by simp; omega)]
    · refine (congrArg (nth · _) hm).trans ?_
      rw [putR_get _ _ _ _ _ (by simp [wordB]), if_neg (by simp), nth_replicate _ _ _ (by simp [wordB])]
    · exact (front_B_quiet (.inl rfl) cs _ (by unfold Quiet; decide)).no60
  · have hm := front_open (.inr rfl) cs _ rfl P0
    refine (front_walk_ft cs _ v w hE hv rfl ?_ ?_ ?_ ?_).mono fun _ _ ⟨h1, h2⟩ => ⟨h1, h2.below⟩
    · exact (congrArg List.length hm).trans (by simp [wordB])
    · exact (congrArg (nth · 0) hm).trans (nth_replicate _ _ _ (by simp [wordB]))
    · exact (congrArg (nth · _) hm).trans (nth_replicate _ _ _ (by simp [wordB]))
    · exact (front_B_quiet (.inr rfl) cs _ (by unfold Quiet; decide)).no60
  · have hm := front_ends (.inr rfl) cs _ rfl P0
    refine (front_walk_tt cs _ v w hE hv rfl ?_ ?_ ?_ ?_).mono fun _ _ ⟨h1, h2⟩ => ⟨h1, h2.below⟩
    · exact (congrArg List.length hm).trans (by simp [putR_length, wordB])
    · intro j hj
      refine (congrArg (nth · j) hm).trans ?_
      rw [putR_get _ _ _ _ _ (by simp; omega), if_pos (by simp; omega)]
    · refine (congrArg (nth · _) hm).trans ?_
      rw [putR_get _ _ _ _ _ (by simp [wordB]), if_neg (by simp), nth_replicate _ _ _ (by simp [wordB])]
    · exact (front_B_quiet (.inr rfl) cs _ (by unfold Quiet; decide)).no60
end Go.Proofs.YtpohopmggpiomaaDoor
