/-
  Plain lines: all of them are prose. The plain law.
-/
import Derived.Test.YtpohopmggpiomaaDoorPlain
namespace Go.Proofs.YtpohopmggpiomaaDoor

theorem bt_cons_zero (b : UInt8) (l : List UInt8) : bt (b :: l) 0 = b.toNat := by simp [bt]
theorem bt_cons_succ (b : UInt8) (l : List UInt8) (k : Nat) : bt (b :: l) (k + 1) = bt l k := by simp [bt]
theorem bt_append_right (a b : List UInt8) (k : Nat) : bt (a ++ b) (a.length + k) = bt b k := by
  unfold bt
  rw [List.getD_eq_getElem?_getD, List.getD_eq_getElem?_getD, List.getElem?_append_right (by omega)]
  congr 4; omega
theorem bt_append_left (a b : List UInt8) (k : Nat) (h : k < a.length) : bt (a ++ b) k = bt a k := by
  unfold bt
  rw [List.getD_eq_getElem?_getD, List.getD_eq_getElem?_getD, List.getElem?_append_left h]
theorem bt_mem (l : List UInt8) (k : Nat) (h : k < l.length) : ∃ b ∈ l, bt l k = b.toNat := ⟨l[k], List.getElem_mem h, by simp [bt, h]⟩

/-- None of these signs. -/
def Quiet (l : List UInt8) : Prop := ∀ b ∈ l, b ≠ 96 ∧ b ≠ 126 ∧ b ≠ 91 ∧ b ≠ 93 ∧ b ≠ 92 ∧ b ≠ 60 ∧ b ≠ 9

theorem Quiet.at {l : List UInt8} (h : Quiet l) (k : Nat) (hk : k < l.length) : bt l k ≠ 96 ∧ bt l k ≠ 126 ∧ bt l k ≠ 91 ∧ bt l k ≠ 93 ∧ bt l k ≠ 92 ∧ bt l k ≠ 60 ∧ bt l k ≠ 9 := by
  obtain ⟨b, hb, e⟩ := bt_mem l k hk
  obtain ⟨h1, h2, h3, h4, h5, h6, h7⟩ := h b hb
  have inj : ∀ c : UInt8, b ≠ c → (b.toNat : Int) ≠ (c.toNat : Int) := fun c hc he => hc (UInt8.toNat_inj.1 (by omega))
  rw [e]
  exact ⟨inj 96 h1, inj 126 h2, inj 91 h3, inj 93 h4, inj 92 h5, inj 60 h6, inj 9 h7⟩

theorem inlN_quiet {l : List UInt8} (h : Quiet l) (P : Nat → List Int → Nat × List Int) (to : Nat) (hto : to ≤ l.length) (L : List Int) : ∀ d k, inlN P l to d k L = L := by
  intro d
  induction d with
  | zero => intro k; rfl
  | succ d ih =>
    intro k
    rw [inlN]
    split
    · rename_i hk
      have := h.at k (by omega)
      have hs : inlStep P l to k L = (k + 1, L) := by
        rw [inlStep, if_neg (by simp [this]), if_neg (by simp [this]), if_neg (by simp [this]), if_neg (by simp [this])]
      rw [hs]
      exact ih _
    · rfl

theorem cutL_none {l : List UInt8} {c : UInt8} (h : ∀ b ∈ l, b ≠ c) : cutL l c = l := by
  cases l with
  | nil => rfl
  | cons x l =>
    have : (x == c) = false := by simpa using h x (by simp)
    simp [cutL, this]

theorem opensL_none {l : List UInt8} (h : ∀ b ∈ l, b ≠ 96 ∧ b ≠ 126) : opensL l = none := by
  unfold opensL
  split
  · unfold fenceAt
    have hd : ∀ b ∈ l.drop (indentL l), b ≠ 96 ∧ b ≠ 126 := fun b hb => h b (List.mem_of_mem_drop hb)
    rw [cutL_none (fun b hb => (hd b hb).1), cutL_none (fun b hb => (hd b hb).2), if_neg (by omega), if_neg (by omega)]
  · rfl

theorem refersL_none {l : List UInt8} (h : ∀ b ∈ l, b ≠ 91) : refersL l = false := by
  have hp : Lib.hasPrefix (l.drop (indentL l)) [91] = false := by
    cases hd : l.drop (indentL l) with
    | nil => rfl
    | cons x r =>
      have : x ≠ 91 := h x (List.mem_of_mem_drop (by rw [hd]; simp))
      have hx : ((91 : UInt8) == x) = false := by simpa using Ne.symm this
      simp [Lib.hasPrefix, List.isPrefixOf, hx]
  unfold refersL
  rw [hp]
  simp

theorem indentL_small {l : List UInt8} (h9 : ∀ b ∈ l, b ≠ 9) (h4 : ¬ (bt l 0 = 32 ∧ bt l 1 = 32 ∧ bt l 2 = 32 ∧ bt l 3 = 32)) : ¬ 3 < indentL l := by
  have hk : ∀ k, k < 4 → indK l k = k := by
    intro k hk
    unfold indK
    split
    · rename_i hh
      obtain ⟨b, hb, e⟩ := bt_mem l k hh.2.1
      have := h9 b hb
      rw [e] at hh
      exact absurd (UInt8.toNat_inj.1 (by have := hh.2.2; simp; omega)) this
    · rfl
  have hstep : ∀ d k, k + d = 4 → (∀ j, j < k → bt l j = 32) → indN l d k < 4 := by
    intro d
    induction d with
    | zero => intro k hkd hall; exact absurd ⟨hall 0 (by omega), hall 1 (by omega), hall 2 (by omega), hall 3 (by omega)⟩ h4
    | succ d ih =>
      intro k hkd hall
      rw [indN]
      split
      · rename_i hh
        refine ih (k + 1) (by omega) fun j hj => ?_
        by_cases e : j = k
        · subst e; exact hh.2.2
        · exact hall j (by omega)
      · omega
  have := hstep 4 0 rfl (fun j hj => by omega)
  unfold indentL
  rw [hk _ this]
  omega

/-- No four blanks in a row. -/
def NoFour (l : List UInt8) : Prop := ∀ k, ¬ (bt l k = 32 ∧ bt l (k + 1) = 32 ∧ bt l (k + 2) = 32 ∧ bt l (k + 3) = 32)

theorem lexN_same {l : List UInt8} (hq : Quiet l) (h4 : NoFour l) (P : Nat → Nat → List Int → Nat × List Int) : ∀ (rows : List (List UInt8)) (pre : List UInt8) (i : Nat) (st : St) (L : List Int), l = pre ++ rows.flatten → st.fence = none →
    lexN P l 0 rows i pre.length st L = L := by
  intro rows
  induction rows with
  | nil => intro pre i st L _ _; rfl
  | cons s r ih =>
    intro pre i st L hl hst
    obtain ⟨f, co, bk⟩ := st
    simp only at hst
    subst hst
    have hmem : ∀ b ∈ s, b ∈ l := fun b hb => by rw [hl]; simp [hb]
    have hs : ∀ b ∈ s, b ≠ 96 ∧ b ≠ 126 ∧ b ≠ 91 ∧ b ≠ 93 ∧ b ≠ 92 ∧ b ≠ 60 ∧ b ≠ 9 := fun b hb => hq b (hmem b hb)
    have hlen : pre.length + s.length ≤ l.length := by rw [hl]; simp
    have hind : ¬ 3 < indentL s := by
      refine indentL_small (fun b hb => (hs b hb).2.2.2.2.2.2) ?_
      rintro ⟨a0, a1, a2, a3⟩
      have e : ∀ j, bt s j = 32 → bt l (pre.length + j) = 32 := by
        intro j hj
        have hjs : j < s.length := by
          rcases Nat.lt_or_ge j s.length with h | h
          · exact h
          · unfold bt at hj
            rw [List.getD_eq_getElem?_getD, List.getElem?_eq_none h] at hj
            simp at hj
        rw [hl, bt_append_right, List.flatten_cons, bt_append_left _ _ _ hjs, hj]
      exact h4 pre.length ⟨e 0 a0, e 1 a1, e 2 a2, e 3 a3⟩
    have hstep : (lineStep P l s pre.length (pre.length + s.length) ⟨none, co, bk⟩ L).2 = L ∧ (lineStep P l s pre.length (pre.length + s.length) ⟨none, co, bk⟩ L).1.fence = none := by
      rw [lineStep_none]
      split
      · exact ⟨rfl, rfl⟩
      · rw [if_neg (by simp [hind]), opensL_none (fun b hb => ⟨(hs b hb).1, (hs b hb).2.1⟩), if_neg (by simp), refersL_none (fun b hb => (hs b hb).2.2.1), if_neg (by simp)]
        exact ⟨inlN_quiet hq _ _ hlen _ _ _, rfl⟩
    rw [lexN, if_neg (by omega)]
    have := ih (pre ++ s) (i + 1) (lineStep P l s pre.length (pre.length + s.length) ⟨none, co, bk⟩ L).1 (lineStep P l s pre.length (pre.length + s.length) ⟨none, co, bk⟩ L).2 (by rw [hl]; simp) hstep.2
    rw [List.length_append] at this
    rw [this, hstep.1]

theorem trimL_prefix (l : List UInt8) : trimL l <+: l := by
  unfold trimL Lib.trimRightS
  have := List.dropWhile_suffix (l := l.reverse) ([32, 9, 13, 10].contains · : UInt8 → Bool)
  have := List.reverse_prefix.2 this
  simpa using this

theorem frontL_zero (ls : List (List UInt8)) (h : ∀ s, ls[0]? = some s → bt s 0 ≠ 45) : frontL ls = 0 := by
  unfold frontL
  rw [frontN]
  split
  · rename_i h0
    have he : ls[0]? = some (lnth ls 0) := by simp [lnth, h0]
    have := h _ he
    have hne : trimL (lnth ls 0) ≠ dash := by
      intro e
      obtain ⟨r, hr⟩ := trimL_prefix (lnth ls 0)
      rw [e] at hr
      rw [← hr] at this
      exact this rfl
    rw [if_neg hne, if_pos rfl]
  · rfl

theorem front_first (l : List UInt8) (h : bt l 0 ≠ 45) : frontL (splitL l) = 0 := by
  refine frontL_zero _ fun s hs => ?_
  have hfl := split_flat l
  cases hr : splitL l with
  | nil => rw [hr] at hs; simp at hs
  | cons x r =>
    rw [hr] at hs hfl
    simp at hs
    subst hs
    have hne : x ≠ [] := (split_mem l x (by rw [hr]; simp)).1
    rw [← hfl, List.flatten_cons, bt_append_left _ _ _ (by cases x with | nil => exact absurd rfl hne | cons => simp)] at h
    exact h

theorem mark_quiet {l : List UInt8} (hq : Quiet l) (h4 : NoFour l) (h0 : bt l 0 ≠ 45) (P : Nat → Nat → List Int → Nat × List Int) : markL P l = List.replicate l.length 1 := by
  unfold markL
  rw [front_first l h0]
  exact lexN_same hq h4 P (splitL l) [] 0 _ _ (by simp [split_flat]) rfl

/-- Blanks at the end, and whether there were four in a row. -/
def spStep (s : Nat × Bool) (b : UInt8) : Nat × Bool := if b = 32 then (s.1 + 1, s.2 && decide (s.1 + 1 < 4)) else (0, s.2)

theorem sp_false (l : List UInt8) (t : Nat) : (l.foldl spStep (t, false)).2 = false := by
  induction l generalizing t with
  | nil => rfl
  | cons b l ih =>
    rw [List.foldl_cons, spStep]
    split
    · simpa using ih (t + 1)
    · exact ih 0

theorem noFour_of {l : List UInt8} (h : (l.foldl spStep (0, true)).2 = true) : NoFour l := by
  rintro k ⟨a0, a1, a2, a3⟩
  have get : ∀ j, bt l j = 32 → l[j]? = some 32 := by
    intro j hj
    rcases Nat.lt_or_ge j l.length with hjl | hjl
    · rw [List.getElem?_eq_getElem hjl]
      unfold bt at hj
      rw [List.getD_eq_getElem?_getD, List.getElem?_eq_getElem hjl] at hj
      simp only [Option.getD_some] at hj
      exact congrArg some (UInt8.toNat_inj.1 (by simp; omega))
    · unfold bt at hj
      rw [List.getD_eq_getElem?_getD, List.getElem?_eq_none hjl] at hj
      simp at hj
  have g0 := get _ a0; have g1 := get _ a1; have g2 := get _ a2; have g3 := get _ a3
  have hs : l = l.take k ++ ([32, 32, 32, 32] ++ l.drop (k + 4)) := by
    conv => lhs; rw [← List.take_append_drop k l]
    congr 1
    have l0 := (List.getElem?_eq_some_iff.1 g0).1
    have l1 := (List.getElem?_eq_some_iff.1 g1).1
    have l2 := (List.getElem?_eq_some_iff.1 g2).1
    have l3 := (List.getElem?_eq_some_iff.1 g3).1
    rw [List.drop_eq_getElem_cons l0, List.drop_eq_getElem_cons l1, List.drop_eq_getElem_cons l2, List.drop_eq_getElem_cons l3]
    rw [(List.getElem?_eq_some_iff.1 g0).2, (List.getElem?_eq_some_iff.1 g1).2, (List.getElem?_eq_some_iff.1 g2).2, (List.getElem?_eq_some_iff.1 g3).2]
    rfl
  rw [hs, List.foldl_append, List.foldl_append] at h
  generalize (l.take k).foldl spStep (0, true) = s at h
  have h4 : ([32, 32, 32, 32] : List UInt8).foldl spStep s = (s.1 + 4, false) := by
    simp [spStep]
  rw [h4, sp_false] at h
  cases h

theorem piece_sp (n : Nat) : ∀ t, t ≤ 1 → ((pieceP n).foldl spStep (t, true)).1 ≤ 1 ∧ ((pieceP n).foldl spStep (t, true)).2 = true := by
  intro t ht
  unfold pieceP
  have : t = 0 ∨ t = 1 := by omega
  rcases this with rfl | rfl <;> split <;> decide

theorem plain_sp (cs : List UInt8) (k : Nat) : ((plainTo cs k).foldl spStep (0, true)).1 ≤ 1 ∧ ((plainTo cs k).foldl spStep (0, true)).2 = true := by
  induction k with
  | zero => exact ⟨Nat.zero_le _, rfl⟩
  | succ k ih =>
    rw [plainTo]
    split
    · rw [List.foldl_append]
      generalize hs : (plainTo cs k).foldl spStep (0, true) = s at ih
      obtain ⟨t, ok⟩ := s
      obtain ⟨h1, h2⟩ := ih
      simp only at h1 h2
      subst h2
      exact piece_sp _ t h1
    · exact ih

theorem piece_quiet (n : Nat) : Quiet (pieceP n) := by
  unfold Quiet pieceP
  split <;> decide

theorem plain_quiet (cs : List UInt8) (k : Nat) : Quiet (plainTo cs k) := by
  induction k with
  | zero => intro b hb; simp [plainTo] at hb
  | succ k ih =>
    rw [plainTo]
    split
    · intro b hb
      rcases List.mem_append.1 hb with h | h
      · exact ih b h
      · exact piece_quiet _ b h
    · exact ih

theorem plain_law (cs : List UInt8) (k : Nat) (P : Nat → Nat → List Int → Nat × List Int) : markL P (122 :: plainTo cs k) = List.replicate (plainTo cs k).length.succ 1 := by
  have hq : Quiet (122 :: plainTo cs k) := by
    intro b hb
    rcases List.mem_cons.1 hb with rfl | h
    · decide
    · exact plain_quiet cs k b h
  have h4 : NoFour (122 :: plainTo cs k) := by
    apply noFour_of
    rw [List.foldl_cons]
    exact (plain_sp cs k).2
  exact mark_quiet hq h4 (by rw [bt_cons_zero]; decide) P

theorem plain_no60 (cs : List UInt8) (n : Nat) : ∀ k, k < (122 :: plainTo cs n).length → bt (122 :: plainTo cs n) k ≠ 60 := by
  intro k hk
  have hq : Quiet (122 :: plainTo cs n) := by
    intro b hb
    rcases List.mem_cons.1 hb with rfl | h
    · decide
    · exact plain_quiet cs n b h
  exact (hq.at k hk).2.2.2.2.2.1

end Go.Proofs.YtpohopmggpiomaaDoor
