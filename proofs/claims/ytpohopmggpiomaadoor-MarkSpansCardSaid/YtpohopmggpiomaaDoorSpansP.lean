/-
  Code spans in one line: the plain law.
-/
import Derived.Test.YtpohopmggpiomaaDoorSpansW
import Derived.Test.YtpohopmggpiomaaDoorFrontP
import Derived.Test.YtpohopmggpiomaaDoorLawKit
namespace Go.Proofs.YtpohopmggpiomaaDoor
open Go.ChangeShapes Go.WideShapes Go.ChangeAt Go.RowKit

theorem splitL_one (l : List UInt8) (h0 : 0 < l.length) (h : ∀ b ∈ l, b ≠ 10) : splitL l = [l] := by
  have hb : begs l l.length = [0] := by
    have := begs_pre l [] h l.length (Nat.le_refl _)
    rwa [List.append_nil] at this
  have hnb : nb l = 1 := by unfold nb; rw [hb]; rfl
  have hbg : bg l 0 = 0 := bg_zero l
  have hn : nLines l = 1 := by
    unfold nLines
    rw [hnb, Nat.sub_self, hbg, if_neg (by omega)]
  have hle : lend l 0 = l.length := by unfold lend; rw [hnb, if_neg (by omega)]
  rw [splitL, hn]
  simp [splitTo, hbg, hle]

theorem trimL_head (b : UInt8) (t : List UInt8) (h : [32, 9, 13, 10].contains b = false) : trimL (b :: t) ≠ [] := by
  unfold trimL Lib.trimRightS
  intro e
  have e' := congrArg List.reverse e
  rw [List.reverse_reverse, List.reverse_nil] at e'
  have key : ∀ (u : List UInt8), List.dropWhile (fun x => [32, 9, 13, 10].contains x) (u ++ [b]) ≠ [] := by
    intro u
    induction u with
    | nil => simp only [List.nil_append, List.dropWhile, h]; simp
    | cons c u ih =>
      rw [List.cons_append, List.dropWhile]
      split
      · exact ih
      · simp
  rw [List.reverse_cons] at e'
  exact key _ e'

/-- A line of text alone. -/
theorem mark_one (P : Nat → Nat → List Int → Nat × List Int) (t : List UInt8) (h : ∀ b ∈ (122 :: t : List UInt8), b ≠ 10) :
    markL P (122 :: t) = inlL (P (122 :: t).length) (122 :: t) 0 (122 :: t).length (List.replicate (122 :: t).length 1) := by
  unfold markL
  rw [front_first _ (by rw [bt_cons_zero]; decide), splitL_one _ (by simp) h]
  have hind : indentL (122 :: t) = 0 := by
    have h0 : bt (122 :: t) 0 = 122 := rfl
    unfold indentL
    rw [indN_stop _ _ _ (by rw [h0]; omega), indK, if_neg (by rw [h0]; omega)]
  have hop : opensL (122 :: t) = none := by
    unfold opensL
    rw [hind, if_pos (by omega), List.drop_zero, fenceAt]
    have c1 : ∀ c : UInt8, c ≠ 122 → cutL (122 :: t) c = 122 :: t := by
      intro c hc
      have : ((122 : UInt8) == c) = false := by simpa using Ne.symm hc
      simp [cutL, this]
    rw [c1 96 (by decide), c1 126 (by decide), if_neg (by omega), if_neg (by omega)]
  have hre : refersL (122 :: t) = false := by
    unfold refersL
    rw [hind, List.drop_zero]
    have : Lib.hasPrefix (122 :: t) [91] = false := by simp [Lib.hasPrefix, List.isPrefixOf]
    rw [this]; simp
  rw [lexN, if_neg (by omega), lexN, lineStep_none, if_neg (trimL_head _ _ (by decide)), if_neg (by rw [hind]; omega), if_neg (by rw [hop]; simp), if_neg (by rw [hre]; simp)]
  simp only [Nat.zero_add]

theorem bt_at (pre post : List UInt8) (b : UInt8) : bt (pre ++ b :: post) pre.length = b.toNat := by
  have := bt_append_right pre (b :: post) 0
  rw [Nat.add_zero] at this
  rw [this]; rfl

theorem bt_ne {b c : UInt8} (h : b ≠ c) : (b.toNat : Int) ≠ (c.toNat : Int) := fun e => h (UInt8.toNat_inj.1 (by omega))

theorem runN_tk (l pre rest : List UInt8) (n : Nat) (h : l = pre ++ (tk n ++ rest)) (hr : ∀ c r, rest = c :: r → c ≠ 96) : ∀ d k, k + d ≥ n → k ≤ n → bt l pre.length = 96 → runN l pre.length l.length d k = n := by
  intro d
  induction d with
  | zero => intro k h1 h2 _; rw [runN]; omega
  | succ d ih =>
    intro k h1 h2 h0
    rw [runN]
    by_cases hk : k < n
    · have hb : bt l (pre.length + k) = 96 := by
        rw [h, bt_append_right, bt_append_left _ _ _ (by rw [tk_len]; exact hk)]
        simp [bt, tk, hk]
      rw [if_pos ⟨by rw [h]; simp only [List.length_append, tk_len]; omega, by rw [hb, h0]⟩]
      exact ih _ (by omega) (by omega) h0
    · obtain rfl : k = n := by omega
      rw [if_neg]
      rintro ⟨h3, h4⟩
      rw [h0, h, bt_append_right] at h4
      have := bt_append_right (tk k) rest 0
      rw [tk_len, Nat.add_zero] at this
      rw [this] at h4
      cases rest with
      | nil => rw [h] at h3; simp [tk_len] at h3
      | cons c r => exact bt_ne (hr c r rfl) (by rw [bt_cons_zero] at h4; exact h4)

theorem run_tk (l pre rest : List UInt8) (n : Nat) (h : l = pre ++ (tk n ++ rest)) (hn : 0 < n) (hr : ∀ c r, rest = c :: r → c ≠ 96) : runL l pre.length l.length = n ∧ bt l pre.length = 96 := by
  have h0 : bt l pre.length = 96 := by
    have := bt_append_right pre (tk n ++ rest) 0
    rw [Nat.add_zero] at this
    rw [h, this, bt_append_left _ _ _ (by rw [tk_len]; exact hn)]
    simp [bt, tk, hn]
  exact ⟨runN_tk l pre rest n h hr _ 0 (by rw [h]; simp only [List.length_append, tk_len]; omega) (by omega) h0, h0⟩

theorem span_step (l : List UInt8) (k to n : Nat) (h : k < to) (hb : bt l k ≠ 96) : spanL l k to n = spanL l (k + 1) to n := by
  unfold spanL
  rw [spanN, if_pos h, if_neg hb]
  exact spanN_fuel _ _ _ _ _ (by omega) _ (by omega)

theorem span_skip (n : Nat) (l rest : List UInt8) : ∀ (seg pre : List UInt8), l = pre ++ (seg ++ rest) → (∀ b ∈ seg, b ≠ 96) → spanL l pre.length l.length n = spanL l (pre ++ seg).length l.length n := by
  intro seg
  induction seg with
  | nil => intro pre _ _; rw [List.append_nil]
  | cons b seg ih =>
    intro pre h hs
    rw [span_step _ _ _ _ (by rw [h]; simp) (by rw [h, List.cons_append, bt_at]; exact bt_ne (hs b (by simp)))]
    have := ih (pre ++ [b]) (by rw [h]; simp) (fun c hc => hs c (by simp [hc]))
    rw [List.length_append, List.length_singleton] at this
    rw [this]; simp

theorem span_end (l : List UInt8) (n : Nat) : spanL l l.length l.length n = none := by
  unfold spanL
  rw [spanN, if_neg (by omega)]

theorem span_hit (l : List UInt8) (k to n : Nat) (h : k < to) (hb : bt l k = 96) (hr : runL l k to = n) : spanL l k to n = some (k + n) := by
  unfold spanL
  rw [spanN, if_pos h, if_pos hb, if_pos hr, hr]

theorem span_miss (l : List UInt8) (k to n r : Nat) (h : k < to) (hb : bt l k = 96) (hr : runL l k to = r) (hne : r ≠ n) : spanL l k to n = spanL l (k + r) to n := by
  have hp := runL_pos l k to h
  unfold spanL
  rw [spanN, if_pos h, if_pos hb, if_neg (by omega), hr]
  exact spanN_fuel _ _ _ _ _ (by omega) _ (by omega)

/-- A byte that is text wherever it stands. -/
def TextB (b : UInt8) : Prop := b ≠ 92 ∧ b ≠ 96 ∧ b ≠ 93 ∧ b ≠ 60

theorem inl_step_text (P : Nat → List Int → Nat × List Int) (l pre post : List UInt8) (b : UInt8) (h : l = pre ++ b :: post) (hb : TextB b) (L : List Int) :
    inlL P l pre.length l.length L = inlL P l (pre.length + 1) l.length L := by
  have hlt : pre.length < l.length := by rw [h]; simp
  have e : bt l pre.length = b.toNat := by rw [h, bt_at]
  unfold inlL
  obtain ⟨d, hd⟩ : ∃ d, l.length - pre.length = d + 1 := ⟨l.length - pre.length - 1, by omega⟩
  rw [hd, inlN, if_pos hlt, show l.length - (pre.length + 1) = d by omega]
  have hs : inlStep P l l.length pre.length L = (pre.length + 1, L) := by
    have n1 : (b.toNat : Int) ≠ 92 := bt_ne hb.1; have n2 : (b.toNat : Int) ≠ 96 := bt_ne hb.2.1; have n3 : (b.toNat : Int) ≠ 93 := bt_ne hb.2.2.1; have n4 : (b.toNat : Int) ≠ 60 := bt_ne hb.2.2.2
    rw [inlStep, e, if_neg (fun h => n1 h.1), if_neg n2, if_neg (fun h => n3 h.1), if_neg n4]
  rw [hs]

theorem inl_skip (P : Nat → List Int → Nat × List Int) (l rest : List UInt8) (L : List Int) : ∀ (seg pre : List UInt8), l = pre ++ (seg ++ rest) → (∀ b ∈ seg, TextB b) → inlL P l pre.length l.length L = inlL P l (pre ++ seg).length l.length L := by
  intro seg
  induction seg with
  | nil => intro pre _ _; rw [List.append_nil]
  | cons b seg ih =>
    intro pre h hs
    rw [inl_step_text P l pre (seg ++ rest) b (by rw [h]; simp) (hs b (by simp))]
    have := ih (pre ++ [b]) (by rw [h]; simp) (fun c hc => hs c (by simp [hc]))
    rw [List.length_append, List.length_singleton] at this
    rw [this]; simp

theorem inl_tick_some {P : Nat → List Int → Nat × List Int} {l : List UInt8} (hP : POk P l l.length) (k e n : Nat) (L : List Int) (hk : k < l.length) (hb : bt l k = 96) (hr : runL l k l.length = n) (hs : spanL l (k + n) l.length n = some e) :
    inlL P l k l.length L = inlL P l e l.length (putR L k e 4) := by
  unfold inlL
  obtain ⟨d, hd⟩ : ∃ d, l.length - k = d + 1 := ⟨l.length - k - 1, by omega⟩
  have hst : inlStep P l l.length k L = (e, putR L k e 4) := by
    rw [inlStep, if_neg (by rw [hb]; omega), if_pos hb, hr, hs]
  have hbd := inlStep_bound hP k L hk
  rw [hst] at hbd
  rw [hd, inlN, if_pos hk, hst]
  exact inlN_fuel hP _ _ _ (by simp only at hbd; omega) _ (by omega)

theorem inl_tick_none {P : Nat → List Int → Nat × List Int} {l : List UInt8} (hP : POk P l l.length) (k n : Nat) (L : List Int) (hk : k < l.length) (hb : bt l k = 96) (hr : runL l k l.length = n) (hs : spanL l (k + n) l.length n = none) :
    inlL P l k l.length L = inlL P l (k + n) l.length L := by
  unfold inlL
  obtain ⟨d, hd⟩ : ∃ d, l.length - k = d + 1 := ⟨l.length - k - 1, by omega⟩
  have hst : inlStep P l l.length k L = (k + n, L) := by
    rw [inlStep, if_neg (by rw [hb]; omega), if_pos hb, hr, hs]
  have hbd := inlStep_bound hP k L hk
  rw [hst] at hbd
  rw [hd, inlN, if_pos hk, hst]
  exact inlN_fuel hP _ _ _ (by simp only at hbd; omega) _ (by omega)

theorem inl_end (P : Nat → List Int → Nat × List Int) (l : List UInt8) (L : List Int) : inlL P l l.length l.length L = L := by
  unfold inlL
  rw [Nat.sub_self, inlN]

theorem sp_cons (cs : List UInt8) (k : Nat) : ∃ t, spTo cs k = 97 :: t := by
  induction k with
  | zero => exact ⟨_, rfl⟩
  | succ k ih =>
    obtain ⟨t, e⟩ := ih
    rw [spTo]
    split
    · rw [e]; exact ⟨_, rfl⟩
    · exact ⟨t, e⟩

theorem sp_text (cs : List UInt8) (k : Nat) : ∀ b ∈ spTo cs k, TextB b ∧ b ≠ 10 := by
  have hs : ∀ n, TextB (sgnB n) ∧ sgnB n ≠ 10 := by
    intro n
    unfold TextB sgnB
    split <;> decide
  induction k with
  | zero => intro b hb; simp [spTo] at hb; subst hb; unfold TextB; decide
  | succ k ih =>
    rw [spTo]
    split
    · intro b hb
      rcases List.mem_append.1 hb with h | h
      · exact ih b h
      · simp at h; subst h; exact hs _
    · exact ih

theorem text2 : ∀ b ∈ ([122, 32] : List UInt8), TextB b := by unfold TextB; decide
theorem text3 : ∀ b ∈ ([101] : List UInt8), TextB b := by unfold TextB; decide
theorem text4 : ∀ b ∈ ([32, 119] : List UInt8), TextB b := by unfold TextB; decide

/-- Between as many ticks. -/
theorem inl_closed {P : Nat → List Int → Nat × List Int} {l : List UInt8} (hP : POk P l l.length) (x : Nat) (hx : 0 < x) (M : List UInt8) (hl : l = [122, 32] ++ (tk x ++ (97 :: M ++ (tk x ++ [32, 119])))) (hs : spanL l (2 + x) l.length x = some (l.length - 2)) (L : List Int) :
    inlL P l 0 l.length L = putR L 2 (l.length - 2) 4 := by
  have h1 := inl_skip P l _ L [122, 32] [] (by simpa using hl) text2
  have hr := run_tk l [122, 32] _ x hl hx (fun c r e => by simp at e; rw [← e.1]; decide)
  have h2 := inl_tick_some hP 2 _ x L (by rw [hl]; simp only [List.length_append, List.length_cons, List.length_nil, tk_len]; try omega) hr.2 hr.1 hs
  have h3 := inl_skip P l [] (putR L 2 (l.length - 2) 4) [32, 119] ([122, 32] ++ tk x ++ (97 :: M) ++ tk x) (by rw [hl]; simp) text4
  have e3 : ([122, 32] ++ tk x ++ (97 :: M) ++ tk x).length = l.length - 2 := by rw [hl]; simp only [List.length_append, List.length_cons, List.length_nil, tk_len]; try omega
  have e4 : ([122, 32] ++ tk x ++ (97 :: M) ++ tk x ++ [32, 119]).length = l.length := by rw [hl]; simp only [List.length_append, List.length_cons, List.length_nil, tk_len]; try omega
  rw [e3, e4, inl_end] at h3
  exact h1.trans (h2.trans h3)

theorem span_ce (x : Nat) (hx : 0 < x) (S l : List UInt8) (hS : ∀ b ∈ S, b ≠ 96) (hl : l = [122, 32] ++ (tk x ++ (S ++ (tk x ++ [32, 119])))) : spanL l (2 + x) l.length x = some (l.length - 2) := by
  have h1 := span_skip x l (tk x ++ [32, 119]) S ([122, 32] ++ tk x) (by rw [hl]; simp) hS
  have hr := run_tk l ([122, 32] ++ tk x ++ S) [32, 119] x (by rw [hl]; simp) hx (fun c r e => by simp at e; rw [← e.1]; decide)
  have h2 := span_hit l ([122, 32] ++ tk x ++ S).length l.length x (by rw [hl]; simp only [List.length_append, List.length_cons, List.length_nil, tk_len]; try omega) hr.2 hr.1
  have e1 : ([122, 32] ++ tk x).length = 2 + x := by simp only [List.length_append, List.length_cons, List.length_nil, tk_len]; try omega
  have e2 : ([122, 32] ++ tk x ++ S).length + x = l.length - 2 := by rw [hl]; simp only [List.length_append, List.length_cons, List.length_nil, tk_len]; try omega
  rw [e1, h2, e2] at h1
  exact h1

theorem span_cn (x y : Nat) (hx : 0 < x) (hy : 0 < y) (hne : y ≠ x) (S l : List UInt8) (hS : ∀ b ∈ S, b ≠ 96) (hl : l = [122, 32] ++ (tk x ++ (S ++ (tk y ++ ([101] ++ (tk x ++ [32, 119])))))) : spanL l (2 + x) l.length x = some (l.length - 2) := by
  have h1 := span_skip x l (tk y ++ ([101] ++ (tk x ++ [32, 119]))) S ([122, 32] ++ tk x) (by rw [hl]; simp) hS
  have hr := run_tk l ([122, 32] ++ tk x ++ S) ([101] ++ (tk x ++ [32, 119])) y (by rw [hl]; simp) hy (fun c r e => by simp at e; rw [← e.1]; decide)
  have h2 := span_miss l ([122, 32] ++ tk x ++ S).length l.length x y (by rw [hl]; simp only [List.length_append, List.length_cons, List.length_nil, tk_len]; try omega) hr.2 hr.1 hne
  have h3 := span_skip x l (tk x ++ [32, 119]) [101] ([122, 32] ++ tk x ++ S ++ tk y) (by rw [hl]; simp) (by decide)
  have hr4 := run_tk l ([122, 32] ++ tk x ++ S ++ tk y ++ [101]) [32, 119] x (by rw [hl]; simp) hx (fun c r e => by simp at e; rw [← e.1]; decide)
  have h4 := span_hit l ([122, 32] ++ tk x ++ S ++ tk y ++ [101]).length l.length x (by rw [hl]; simp only [List.length_append, List.length_cons, List.length_nil, tk_len]; try omega) hr4.2 hr4.1
  have e1 : ([122, 32] ++ tk x).length = 2 + x := by simp only [List.length_append, List.length_cons, List.length_nil, tk_len]; try omega
  have e2 : ([122, 32] ++ tk x ++ S).length + y = ([122, 32] ++ tk x ++ S ++ tk y).length := by simp only [List.length_append, List.length_cons, List.length_nil, tk_len]; try omega
  have e4 : ([122, 32] ++ tk x ++ S ++ tk y ++ [101]).length + x = l.length - 2 := by rw [hl]; simp only [List.length_append, List.length_cons, List.length_nil, tk_len]; try omega
  rw [e1, h2, e2, h3, h4, e4] at h1
  exact h1

theorem inl_open_e {P : Nat → List Int → Nat × List Int} {l : List UInt8} (hP : POk P l l.length) (x : Nat) (hx : 0 < x) (M : List UInt8) (hM : ∀ b ∈ (97 :: M : List UInt8), TextB b) (hl : l = [122, 32] ++ (tk x ++ (97 :: M))) (L : List Int) :
    inlL P l 0 l.length L = L := by
  have h1 := inl_skip P l _ L [122, 32] [] (by simpa using hl) text2
  have hr := run_tk l [122, 32] _ x hl hx (fun c r e => by simp at e; rw [← e.1]; decide)
  have s1 := span_skip x l [] (97 :: M) ([122, 32] ++ tk x) (by rw [hl]; simp) (fun b hb => (hM b hb).2.1)
  have e1 : ([122, 32] ++ tk x).length = 2 + x := by simp only [List.length_append, List.length_cons, List.length_nil, tk_len]; try omega
  have e2 : ([122, 32] ++ tk x ++ (97 :: M)).length = l.length := by rw [hl]; simp
  rw [e1, e2, span_end] at s1
  have h2 := inl_tick_none hP 2 x L (by rw [hl]; simp only [List.length_append, List.length_cons, List.length_nil, tk_len]; try omega) hr.2 hr.1 s1
  have h3 := inl_skip P l [] L (97 :: M) ([122, 32] ++ tk x) (by rw [hl]; simp) hM
  rw [e1, e2, inl_end] at h3
  exact h1.trans (h2.trans h3)

theorem inl_open_n {P : Nat → List Int → Nat × List Int} {l : List UInt8} (hP : POk P l l.length) (x y : Nat) (hx : 0 < x) (hy : 0 < y) (hne : y ≠ x) (M : List UInt8) (hM : ∀ b ∈ (97 :: M : List UInt8), TextB b) (hl : l = [122, 32] ++ (tk x ++ (97 :: M ++ (tk y ++ [101])))) (L : List Int) :
    inlL P l 0 l.length L = L := by
  have h1 := inl_skip P l _ L [122, 32] [] (by simpa using hl) text2
  have hr := run_tk l [122, 32] _ x hl hx (fun c r e => by simp at e; rw [← e.1]; decide)
  have s1 := span_skip x l (tk y ++ [101]) (97 :: M) ([122, 32] ++ tk x) (by rw [hl]; simp) (fun b hb => (hM b hb).2.1)
  have hr2 := run_tk l ([122, 32] ++ tk x ++ (97 :: M)) [101] y (by rw [hl]; simp) hy (fun c r e => by simp at e; rw [← e.1]; decide)
  have s2 := span_miss l ([122, 32] ++ tk x ++ (97 :: M)).length l.length x y (by rw [hl]; simp only [List.length_append, List.length_cons, List.length_nil, tk_len]; try omega) hr2.2 hr2.1 hne
  have s3 := fun n => span_skip n l [] [101] ([122, 32] ++ tk x ++ (97 :: M) ++ tk y) (by rw [hl]; simp) (by decide)
  have e1 : ([122, 32] ++ tk x).length = 2 + x := by simp only [List.length_append, List.length_cons, List.length_nil, tk_len]; try omega
  have e2 : ([122, 32] ++ tk x ++ (97 :: M)).length + y = ([122, 32] ++ tk x ++ (97 :: M) ++ tk y).length := by simp only [List.length_append, List.length_cons, List.length_nil, tk_len]; try omega
  have e3 : ([122, 32] ++ tk x ++ (97 :: M) ++ tk y ++ [101]).length = l.length := by rw [hl]; simp
  rw [e1, s2, e2, s3, e3, span_end] at s1
  have h2 := inl_tick_none hP 2 x L (by rw [hl]; simp only [List.length_append, List.length_cons, List.length_nil, tk_len]; try omega) hr.2 hr.1 s1
  have h3 := inl_skip P l (tk y ++ [101]) L (97 :: M) ([122, 32] ++ tk x) (by rw [hl]; simp) hM
  have s4 := s3 y
  rw [e3, span_end, ← e2] at s4
  have h4 := inl_tick_none hP ([122, 32] ++ tk x ++ (97 :: M)).length y L (by rw [hl]; simp only [List.length_append, List.length_cons, List.length_nil, tk_len]; try omega) hr2.2 hr2.1 s4
  have h5 := inl_skip P l [] L [101] ([122, 32] ++ tk x ++ (97 :: M) ++ tk y) (by rw [hl]; simp) text3
  rw [e3, inl_end] at h5
  rw [e1, h4, e2, h5] at h3
  exact h1.trans (h2.trans h3)

theorem tk_mem (n : Nat) : ∀ b ∈ tk n, b = 96 := by
  intro b hb
  exact List.eq_of_mem_replicate hb

/-- Each byte is of one of the kinds. -/
def SpB (b : UInt8) : Prop := b ≠ 10 ∧ b ≠ 60

theorem sp_sp (cs : List UInt8) (k : Nat) : ∀ b ∈ spTo cs k, SpB b := fun b hb => ⟨(sp_text cs k b hb).2, (sp_text cs k b hb).1.2.2.2⟩
theorem tk_sp (n : Nat) : ∀ b ∈ tk n, SpB b := fun b hb => by rw [tk_mem n b hb]; unfold SpB; decide
theorem app_sp {a b : List UInt8} (ha : ∀ c ∈ a, SpB c) (hb : ∀ c ∈ b, SpB c) : ∀ c ∈ a ++ b, SpB c := fun c hc => by
  rcases List.mem_append.1 hc with h | h
  · exact ha c h
  · exact hb c h

theorem no60 {l : List UInt8} (h : ∀ c ∈ l, SpB c) : ∀ k, k < l.length → bt l k ≠ 60 := by
  intro k hk
  obtain ⟨b, hb, e⟩ := bt_mem l k hk
  rw [e]
  exact bt_ne (h b hb).2

theorem closed_nth {L : List Int} {n : Nat} (h : L = putR (List.replicate n 1) 2 (n - 2) 4) : L.length = n ∧ ∀ j, j < n → nth L j = if 2 ≤ j ∧ j < n - 2 then 4 else 1 := by
  subst h
  refine ⟨by rw [putR_length, List.length_replicate], fun j hj => ?_⟩
  rw [putR_get _ _ _ _ _ (by rw [List.length_replicate]; exact hj), nth_replicate _ _ _ hj]

theorem open_nth {L : List Int} {n : Nat} (h : L = List.replicate n 1) : L.length = n ∧ ∀ j, j < n → nth L j = 1 := by
  subst h
  exact ⟨List.length_replicate, fun j hj => nth_replicate _ _ _ hj⟩

theorem markSpans_calls (a0 a1 : Int) (cs : List UInt8) (v : Value) (opn : Bool) (w : World) (hE : Env w) (h0 : (Lit.int .u8 a0).wf = true) (h1 : (Lit.int .u8 a1).wf = true) (hv : BytesV w v cs) :
    Calls Tryd.prog 5 #[.int .u8 a0, .int .u8 a1, v, .bool opn] w fun e w' => e = .returned (.bool true) ∧ Below w.heap.size w w' := by
  have b0 : 0 ≤ a0 ∧ a0 ≤ 255 := by simpa [Lit.wf] using bounds_u8 h0
  have b1 : 0 ≤ a1 ∧ a1 ≤ 255 := by simpa [Lit.wf] using bounds_u8 h1
  obtain ⟨x, hx⟩ : ∃ x : Nat, 1 + a0 % 4 = (x : Int) := ⟨(1 + a0 % 4).toNat, by omega⟩
  obtain ⟨y, hy⟩ : ∃ y : Nat, 1 + a1 % 4 = (y : Int) := ⟨(1 + a1 % 4).toNat, by omega⟩
  have hxp : 0 < x := by omega
  have hyp : 0 < y := by omega
  obtain ⟨M, hM⟩ := sp_cons cs cs.length
  have hT : ∀ b ∈ (97 :: M : List UInt8), TextB b := by rw [← hM]; exact fun b hb => (sp_text cs _ b hb).1
  have s2 : ∀ c ∈ ([122, 32] : List UInt8), SpB c := by unfold SpB; decide
  have s3 : ∀ c ∈ ([101] : List UInt8), SpB c := by unfold SpB; decide
  have s4 : ∀ c ∈ ([32, 119] : List UInt8), SpB c := by unfold SpB; decide
  by_cases hxy : y = x
  · cases opn
    · obtain ⟨B, hB⟩ : ∃ B : List UInt8, B = 122 :: 32 :: (tk x ++ (spTo cs cs.length ++ (tk x ++ [32, 119]))) := ⟨_, rfl⟩
      have hq : ∀ c ∈ B, SpB c := by rw [hB]; exact app_sp s2 (app_sp (tk_sp x) (app_sp (sp_sp cs cs.length) (app_sp (tk_sp x) s4)))
      have hm : markL P0 B = putR (List.replicate B.length 1) 2 (B.length - 2) 4 := by
        rw [hB] at hq ⊢
        exact (mark_one P0 _ (fun b hb => (hq b hb).1)).trans (inl_closed (P0_ok _ _) x hxp M (by rw [hM]) (span_ce x hxp (spTo cs cs.length) _ (fun b hb => (sp_text cs _ b hb).1.2.1) rfl) _)
      obtain ⟨hl, hn⟩ := closed_nth hm
      exact (spans_walk_ec a0 a1 x y cs B v w hE hv b0 b1 hx hy hxy hB hl hn (no60 hq)).mono fun _ _ ⟨h1, h2⟩ => ⟨h1, h2.below⟩
    · obtain ⟨B, hB⟩ : ∃ B : List UInt8, B = 122 :: 32 :: (tk x ++ spTo cs cs.length) := ⟨_, rfl⟩
      have hq : ∀ c ∈ B, SpB c := by rw [hB]; exact app_sp s2 (app_sp (tk_sp x) (sp_sp cs cs.length))
      have hm : markL P0 B = List.replicate B.length 1 := by
        rw [hB] at hq ⊢
        exact (mark_one P0 _ (fun b hb => (hq b hb).1)).trans (inl_open_e (P0_ok _ _) x hxp M hT (by rw [hM]; first | rfl | simp) _)
      obtain ⟨hl, hn⟩ := open_nth hm
      exact (spans_walk_eo a0 a1 x y cs B v w hE hv b0 b1 hx hy hxy hB hl hn (no60 hq)).mono fun _ _ ⟨h1, h2⟩ => ⟨h1, h2.below⟩
  · cases opn
    · obtain ⟨B, hB⟩ : ∃ B : List UInt8, B = 122 :: 32 :: (tk x ++ (spTo cs cs.length ++ (tk y ++ (101 :: (tk x ++ [32, 119]))))) := ⟨_, rfl⟩
      have hq : ∀ c ∈ B, SpB c := by rw [hB]; exact app_sp s2 (app_sp (tk_sp x) (app_sp (sp_sp cs cs.length) (app_sp (tk_sp y) (app_sp s3 (app_sp (tk_sp x) s4)))))
      have hm : markL P0 B = putR (List.replicate B.length 1) 2 (B.length - 2) 4 := by
        rw [hB] at hq ⊢
        exact (mark_one P0 _ (fun b hb => (hq b hb).1)).trans (inl_closed (P0_ok _ _) x hxp (M ++ (tk y ++ [101])) (by rw [hM]; simp) (span_cn x y hxp hyp hxy (spTo cs cs.length) _ (fun b hb => (sp_text cs _ b hb).1.2.1) rfl) _)
      obtain ⟨hl, hn⟩ := closed_nth hm
      exact (spans_walk_nc a0 a1 x y cs B v w hE hv b0 b1 hx hy hxy hB hl hn (no60 hq)).mono fun _ _ ⟨h1, h2⟩ => ⟨h1, h2.below⟩
    · obtain ⟨B, hB⟩ : ∃ B : List UInt8, B = 122 :: 32 :: (tk x ++ (spTo cs cs.length ++ (tk y ++ [101]))) := ⟨_, rfl⟩
      have hq : ∀ c ∈ B, SpB c := by rw [hB]; exact app_sp s2 (app_sp (tk_sp x) (app_sp (sp_sp cs cs.length) (app_sp (tk_sp y) s3)))
      have hm : markL P0 B = List.replicate B.length 1 := by
        rw [hB] at hq ⊢
        exact (mark_one P0 _ (fun b hb => (hq b hb).1)).trans (inl_open_n (P0_ok _ _) x y hxp hyp hxy M hT (by rw [hM]; first | rfl | simp) _)
      obtain ⟨hl, hn⟩ := open_nth hm
      exact (spans_walk_no a0 a1 x y cs B v w hE hv b0 b1 hx hy hxy hB hl hn (no60 hq)).mono fun _ _ ⟨h1, h2⟩ => ⟨h1, h2.below⟩
end Go.Proofs.YtpohopmggpiomaaDoor
