/-
  A link's brackets: the plain law.
-/
import Derived.Test.YtpohopmggpiomaaGreatDoorLinksW
import Derived.Test.YtpohopmggpiomaaGreatDoorLawKitZ
namespace Go.Proofs.YtpohopmggpiomaaGreatDoor
open Go.ChangeShapes Go.WideShapes Go.ChangeAt Go.RowKit

theorem bt_cons_zero (b : UInt8) (l : List UInt8) : bt (b :: l) 0 = b.toNat := by simp [bt]

theorem bt_append_right (a b : List UInt8) (k : Nat) : bt (a ++ b) (a.length + k) = bt b k := by
  unfold bt
  rw [List.getD_eq_getElem?_getD, List.getD_eq_getElem?_getD, List.getElem?_append_right (by omega)]
  congr 4; omega

theorem bt_append_left (a b : List UInt8) (k : Nat) (h : k < a.length) : bt (a ++ b) k = bt a k := by
  unfold bt
  rw [List.getD_eq_getElem?_getD, List.getD_eq_getElem?_getD, List.getElem?_append_left h]

theorem bt_mem (l : List UInt8) (k : Nat) (h : k < l.length) : ∃ b ∈ l, bt l k = b.toNat := ⟨l[k], List.getElem_mem h, by simp [bt, h]⟩

theorem trimL_prefix (l : List UInt8) : trimL l <+: l := by
  unfold trimL Lib.trimRightS
  have := List.dropWhile_suffix (l := l.reverse) ([32, 9, 13, 10].contains · : UInt8 → Bool)
  have := List.reverse_prefix.2 this
  simpa using this

theorem frontL_zero (ls : List (List UInt8)) (h : ∀ s, ls[0]? = some s → bt s 0 ≠ 45) : frontL ls = 0 := by
  unfold frontL
  rw [frontN]
  split
  · rename_i h0
    have he : ls[0]? = some (lnth ls 0) := by simp [lnth, h0]
    have := h _ he
    have hne : trimL (lnth ls 0) ≠ dash := by
      intro e
      obtain ⟨r, hr⟩ := trimL_prefix (lnth ls 0)
      rw [e] at hr
      rw [← hr] at this
      exact this rfl
    rw [if_neg hne, if_pos rfl]
  · rfl

theorem front_first (l : List UInt8) (h : bt l 0 ≠ 45) : frontL (splitL l) = 0 := by
  refine frontL_zero _ fun s hs => ?_
  have hfl := split_flat l
  cases hr : splitL l with
  | nil => rw [hr] at hs; simp at hs
  | cons x r =>
    rw [hr] at hs hfl
    simp at hs
    subst hs
    have hne : x ≠ [] := (split_mem l x (by rw [hr]; simp)).1
    rw [← hfl, List.flatten_cons, bt_append_left _ _ _ (by cases x with | nil => exact absurd rfl hne | cons => simp)] at h
    exact h

theorem begs_pre (r t : List UInt8) (hr : ∀ b ∈ r, b ≠ 10) : ∀ k, k ≤ r.length → begs (r ++ t) k = [0] := by
  intro k
  induction k with
  | zero => intro _; rfl
  | succ k ih =>
    intro hk
    rw [begs, ih (by omega), if_neg]
    rw [bt_append_left _ _ _ (by omega)]
    obtain ⟨b, hb, e⟩ := bt_mem r k (by omega)
    rw [e]
    intro e2
    exact hr b hb (UInt8.toNat_inj.1 (by simp; omega))

theorem nth_replicate (n : Nat) (x : Int) (k : Nat) (h : k < n) : nth (List.replicate n x) k = x := by simp [nth, h]

theorem splitL_one (l : List UInt8) (h0 : 0 < l.length) (h : ∀ b ∈ l, b ≠ 10) : splitL l = [l] := by
  have hb : begs l l.length = [0] := by
    have := begs_pre l [] h l.length (Nat.le_refl _)
    rwa [List.append_nil] at this
  have hnb : nb l = 1 := by unfold nb; rw [hb]; rfl
  have hbg : bg l 0 = 0 := bg_zero l
  have hn : nLines l = 1 := by
    unfold nLines
    rw [hnb, Nat.sub_self, hbg, if_neg (by omega)]
  have hle : lend l 0 = l.length := by unfold lend; rw [hnb, if_neg (by omega)]
  rw [splitL, hn]
  simp [splitTo, hbg, hle]

theorem trimL_head (b : UInt8) (t : List UInt8) (h : [32, 9, 13, 10].contains b = false) : trimL (b :: t) ≠ [] := by
  unfold trimL Lib.trimRightS
  intro e
  have e' := congrArg List.reverse e
  rw [List.reverse_reverse, List.reverse_nil] at e'
  have key : ∀ (u : List UInt8), List.dropWhile (fun x => [32, 9, 13, 10].contains x) (u ++ [b]) ≠ [] := by
    intro u
    induction u with
    | nil => simp only [List.nil_append, List.dropWhile, h]; simp
    | cons c u ih =>
      rw [List.cons_append, List.dropWhile]
      split
      · exact ih
      · simp
  rw [List.reverse_cons] at e'
  exact key _ e'

theorem bt_at (pre post : List UInt8) (b : UInt8) : bt (pre ++ b :: post) pre.length = b.toNat := by
  have := bt_append_right pre (b :: post) 0
  rw [Nat.add_zero] at this
  rw [this]; rfl

theorem bt_ne {b c : UInt8} (h : b ≠ c) : (b.toNat : Int) ≠ (c.toNat : Int) := fun e => h (UInt8.toNat_inj.1 (by omega))

/-- A byte that is text wherever it stands. -/
def TextB (b : UInt8) : Prop := b ≠ 92 ∧ b ≠ 96 ∧ b ≠ 93 ∧ b ≠ 60

theorem inl_step_text (P : Nat → List Int → Nat × List Int) (l pre post : List UInt8) (b : UInt8) (h : l = pre ++ b :: post) (hb : TextB b) (L : List Int) :
    inlL P l pre.length l.length L = inlL P l (pre.length + 1) l.length L := by
  have hlt : pre.length < l.length := by rw [h]; simp
  have e : bt l pre.length = b.toNat := by rw [h, bt_at]
  unfold inlL
  obtain ⟨d, hd⟩ : ∃ d, l.length - pre.length = d + 1 := ⟨l.length - pre.length - 1, by omega⟩
  rw [hd, inlN, if_pos hlt, show l.length - (pre.length + 1) = d by omega]
  have hs : inlStep P l l.length pre.length L = (pre.length + 1, L) := by
    have n1 : (b.toNat : Int) ≠ 92 := bt_ne hb.1; have n2 : (b.toNat : Int) ≠ 96 := bt_ne hb.2.1; have n3 : (b.toNat : Int) ≠ 93 := bt_ne hb.2.2.1; have n4 : (b.toNat : Int) ≠ 60 := bt_ne hb.2.2.2
    rw [inlStep, e, if_neg (fun h => n1 h.1), if_neg n2, if_neg (fun h => n3 h.1), if_neg n4]
  rw [hs]

theorem inl_skip (P : Nat → List Int → Nat × List Int) (l rest : List UInt8) (L : List Int) : ∀ (seg pre : List UInt8), l = pre ++ (seg ++ rest) → (∀ b ∈ seg, TextB b) → inlL P l pre.length l.length L = inlL P l (pre ++ seg).length l.length L := by
  intro seg
  induction seg with
  | nil => intro pre _ _; rw [List.append_nil]
  | cons b seg ih =>
    intro pre h hs
    rw [inl_step_text P l pre (seg ++ rest) b (by rw [h]; simp) (hs b (by simp))]
    have := ih (pre ++ [b]) (by rw [h]; simp) (fun c hc => hs c (by simp [hc]))
    rw [List.length_append, List.length_singleton] at this
    rw [this]; simp

theorem inl_end (P : Nat → List Int → Nat × List Int) (l : List UInt8) (L : List Int) : inlL P l l.length l.length L = L := by
  unfold inlL
  rw [Nat.sub_self, inlN]

theorem mark_bracket (P : Nat → Nat → List Int → Nat × List Int) (l : List UInt8) (h : OneLine l) (h10 : ∀ b ∈ l, b ≠ 10) :
    markL P l = inlL (P l.length) l 0 l.length (List.replicate l.length 1) := by
  have h0 := h.b0
  have hlen := h.len
  unfold markL
  rw [front_first _ (by rw [h0]; decide), splitL_one _ (by omega) h10]
  have hind := h.indent
  obtain ⟨t, e⟩ := h.cons
  have hop : opensL l = none := by
    unfold opensL
    rw [hind, if_pos (by omega), List.drop_zero, fenceAt, e]
    have c1 : ∀ c : UInt8, c ≠ 91 → cutL (91 :: t) c = 91 :: t := by
      intro c hc
      have : ((91 : UInt8) == c) = false := by simpa using Ne.symm hc
      simp [cutL, this]
    rw [c1 96 (by decide), c1 126 (by decide), if_neg (by omega), if_neg (by omega)]
  have hre : refersL l = false := by
    have h1 := h.b1
    have h2 := h.b2
    have h3 := h.b3
    have h4 := h.len
    have hix : Lib.indexByte l 93 = 2 ∧ ∃ r, l.drop 2 = 93 :: 40 :: r := by
      match l, h0, h1, h2, h3, h4 with
      | a :: b :: c :: d :: r, h0, h1, h2, h3, _ =>
        have e0 : a = 91 := UInt8.toNat_inj.1 (by simp [bt] at h0; simp; omega)
        have e1 : b ≠ 93 := fun e => h1 (by subst e; rfl)
        have e2 : c = 93 := UInt8.toNat_inj.1 (by simp [bt] at h2; simp; omega)
        have e3 : d = 40 := UInt8.toNat_inj.1 (by simp [bt] at h3; simp; omega)
        subst e0 e2 e3
        refine ⟨?_, r, rfl⟩
        have f1 : (b == 93) = false := by simpa using e1
        simp [Lib.indexByte, f1]
    unfold refersL
    obtain ⟨i1, r, i2⟩ := hix
    rw [i1, show (2 : Int).toNat = 2 from rfl, i2]
    have : Lib.hasPrefix (93 :: 40 :: r) [93, 58] = false := by simp [Lib.hasPrefix, List.isPrefixOf]
    rw [this]; simp
  have ht : trimL l ≠ [] := by rw [e]; exact trimL_head _ _ (by decide)
  rw [lexN, if_neg (by omega), lexN, lineStep_none, if_neg ht, if_neg (by rw [hind]; omega), if_neg (by rw [hop]; simp), if_neg (by rw [hre]; simp)]
  simp only [Nat.zero_add]

/-- Where the bracket is shut, from a place on. -/
def shS (l : List UInt8) (k deep : Nat) : Option Nat := shutN l l.length (l.length + 2 - k) k deep

theorem shS_step (l : List UInt8) (k deep : Nat) (h : k < l.length) (h92 : bt l k ≠ 92) : shS l k deep = if bt l k = 40 then (if 32 < deep + 1 then none else shS l (k + 1) (deep + 1)) else if bt l k = 41 then (if deep = 1 then some (k + 1) else shS l (k + 1) (deep - 1)) else shS l (k + 1) deep := by
  unfold shS
  obtain ⟨d, hd⟩ : ∃ d, l.length + 2 - k = d + 1 := ⟨l.length + 1 - k, by omega⟩
  rw [hd, shutN, if_pos h, if_neg h92, show l.length + 2 - (k + 1) = d by omega]

theorem shS_end (l : List UInt8) (deep : Nat) : shS l l.length deep = none := by
  unfold shS
  rw [show l.length + 2 - l.length = 1 + 1 by omega, shutN, if_neg (by omega)]

theorem shutL_S (l : List UInt8) (k : Nat) : shutL l k l.length = shS l k 1 := shutN_fuel _ _ _ _ _ (by omega) _ (by omega)

theorem rep_cons (m : Nat) (b : UInt8) (rest : List UInt8) : List.replicate (m + 1) b ++ rest = b :: (List.replicate m b ++ rest) := by rw [List.replicate_succ]; rfl

theorem shS_open (l rest : List UInt8) : ∀ (m : Nat) (pre : List UInt8) (deep : Nat), l = pre ++ (List.replicate m 40 ++ rest) → deep + m ≤ 32 → shS l pre.length deep = shS l (pre.length + m) (deep + m) := by
  intro m
  induction m with
  | zero => intro pre deep _ _; rfl
  | succ m ih =>
    intro pre deep h hd
    rw [rep_cons] at h
    have hb : bt l pre.length = 40 := by rw [h, bt_at]; rfl
    rw [shS_step _ _ _ (by rw [h]; simp) (by rw [hb]; decide), if_pos hb, if_neg (by omega)]
    have := ih (pre ++ [40]) (deep + 1) (by rw [h]; simp) (by omega)
    rw [List.length_append, List.length_singleton] at this
    rw [this, Nat.add_assoc, Nat.add_comm 1 m, Nat.add_assoc, Nat.add_comm 1 m]

theorem shS_many (l rest : List UInt8) : ∀ (m : Nat) (pre : List UInt8) (deep : Nat), l = pre ++ (List.replicate m 40 ++ rest) → deep ≤ 32 → 32 < deep + m → shS l pre.length deep = none := by
  intro m
  induction m with
  | zero => intro pre deep _ _ _; omega
  | succ m ih =>
    intro pre deep h hd h3
    rw [rep_cons] at h
    have hb : bt l pre.length = 40 := by rw [h, bt_at]; rfl
    rw [shS_step _ _ _ (by rw [h]; simp) (by rw [hb]; decide), if_pos hb]
    split
    · rfl
    · have := ih (pre ++ [40]) (deep + 1) (by rw [h]; simp) (by omega) (by omega)
      rw [List.length_append, List.length_singleton] at this
      exact this

theorem shS_close (l rest : List UInt8) : ∀ (m : Nat) (pre : List UInt8) (deep : Nat), l = pre ++ (List.replicate m 41 ++ rest) → m < deep → shS l pre.length deep = shS l (pre.length + m) (deep - m) := by
  intro m
  induction m with
  | zero => intro pre deep _ _; rfl
  | succ m ih =>
    intro pre deep h hd
    rw [rep_cons] at h
    have hb : bt l pre.length = 41 := by rw [h, bt_at]; rfl
    rw [shS_step _ _ _ (by rw [h]; simp) (by rw [hb]; decide), if_neg (by rw [hb]; decide), if_pos hb, if_neg (by omega)]
    have := ih (pre ++ [41]) (deep - 1) (by rw [h]; simp) (by omega)
    rw [List.length_append, List.length_singleton] at this
    rw [this, show pre.length + 1 + m = pre.length + (m + 1) by omega, show deep - 1 - m = deep - (m + 1) by omega]

theorem shS_text (l rest : List UInt8) (deep : Nat) : ∀ (seg pre : List UInt8), l = pre ++ (seg ++ rest) → (∀ b ∈ seg, b ≠ 92 ∧ b ≠ 40 ∧ b ≠ 41) → shS l pre.length deep = shS l (pre ++ seg).length deep := by
  intro seg
  induction seg with
  | nil => intro pre _ _; rw [List.append_nil]
  | cons b seg ih =>
    intro pre h hs
    have hb : bt l pre.length = b.toNat := by rw [h, List.cons_append, bt_at]
    obtain ⟨n1, n2, n3⟩ := hs b (by simp)
    have e1 : (b.toNat : Int) ≠ 92 := bt_ne n1
    have e2 : (b.toNat : Int) ≠ 40 := bt_ne n2
    have e3 : (b.toNat : Int) ≠ 41 := bt_ne n3
    rw [shS_step _ _ _ (by rw [h]; simp) (by rw [hb]; exact e1), hb, if_neg e2, if_neg e3]
    have := ih (pre ++ [b]) (by rw [h]; simp) (fun c hc => hs c (by simp [hc]))
    rw [List.length_append, List.length_singleton] at this
    rw [this]; simp

/-- The text of a link's place. -/
def lkT (cs : List UInt8) : Nat → List UInt8
  | 0 => []
  | k + 1 => if k < 9 then lkT cs k ++ [sgnL (bt cs k % 4).toNat] else lkT cs k

theorem opn_eq (n : Nat) : opn n = [91, 120, 93, 40] ++ List.replicate n 40 := by
  induction n with
  | zero => rfl
  | succ n ih => rw [opn, ih, List.replicate_succ', List.append_assoc]
theorem lk_eq (cs A : List UInt8) (k : Nat) : lk cs A k = A ++ lkT cs k := by
  induction k with
  | zero => simp [lk, lkT]
  | succ k ih =>
    rw [lk, lkT]
    split
    · rw [ih, List.append_assoc]
    · exact ih
theorem shu_eq (A : List UInt8) (k : Nat) : shu A k = A ++ List.replicate k 41 := by
  induction k with
  | zero => simp [shu]
  | succ k ih => rw [shu, ih, List.replicate_succ', List.append_assoc]

theorem linkQ_eq (cs T : List UInt8) (n : Nat) : linkQ cs n ++ T = [91, 120] ++ (93 :: 40 :: (List.replicate n 40 ++ (lkT cs cs.length ++ (List.replicate n 41 ++ T)))) := by
  rw [linkQ, shu_eq, lk_eq, opn_eq]; simp

theorem lkT_mem (cs : List UInt8) (k : Nat) : ∀ b ∈ lkT cs k, b = 97 ∨ b = 98 ∨ b = 46 ∨ b = 47 := by
  have hs : ∀ n, sgnL n = 97 ∨ sgnL n = 98 ∨ sgnL n = 46 ∨ sgnL n = 47 := by
    intro n
    unfold sgnL
    split <;> decide
  induction k with
  | zero => intro b hb; simp [lkT] at hb
  | succ k ih =>
    rw [lkT]
    split
    · intro b hb
      rcases List.mem_append.1 hb with h | h
      · exact ih b h
      · simp at h; subst h; exact hs _
    · exact ih

/-- The signs of such a line. -/
def LkB (b : UInt8) : Prop := b = 91 ∨ b = 120 ∨ b = 93 ∨ b = 40 ∨ b = 41 ∨ b = 97 ∨ b = 98 ∨ b = 46 ∨ b = 47 ∨ b = 32 ∨ b = 121

theorem link_mem (cs T : List UInt8) (n : Nat) (hT : ∀ b ∈ T, LkB b) : ∀ b ∈ linkQ cs n ++ T, LkB b := by
  rw [linkQ_eq]
  intro b hb
  simp only [List.cons_append, List.nil_append, List.mem_cons, List.mem_append, List.mem_replicate] at hb
  unfold LkB
  rcases hb with h | h | h | h | h | h | h | h
  · simp [h]
  · simp [h]
  · simp [h]
  · simp [h]
  · simp [h.2]
  · rcases lkT_mem cs _ b h with e | e | e | e <;> simp [e]
  · simp [h.2]
  · exact hT b h

theorem lkB_ne {b : UInt8} (h : LkB b) : b ≠ 92 ∧ b ≠ 96 ∧ b ≠ 60 ∧ b ≠ 10 := by
  unfold LkB at h
  rcases h with h | h | h | h | h | h | h | h | h | h | h <;> subst h <;> decide

theorem link_one (cs T : List UInt8) (n : Nat) (hn : n < 40) (hT : ∀ b ∈ T, LkB b) (hl : T.length ≤ 3) : OneLine (linkQ cs n ++ T) ∧ (∀ b ∈ linkQ cs n ++ T, b ≠ 10) := by
  have hm := link_mem cs T n hT
  have hat : ∀ k, k < (linkQ cs n ++ T).length → ∃ b, LkB b ∧ bt (linkQ cs n ++ T) k = b.toNat := fun k hk => by
    obtain ⟨b, hb, e⟩ := bt_mem _ k hk
    exact ⟨b, hm b hb, e⟩
  have hql : (linkQ cs n).length = (lk cs (opn n) cs.length).length + n := shu_len _ _
  have hlk := lk_len cs (opn n) cs.length
  rw [opn_len] at hlk
  refine ⟨⟨?_, ?_, ?_, ?_, ?_, ?_, ?_⟩, fun b hb => (lkB_ne (hm b hb)).2.2.2⟩
  · intro k hk
    obtain ⟨b, hb, e⟩ := hat k hk
    rw [e]
    exact ⟨bt_ne (lkB_ne hb).1, bt_ne (lkB_ne hb).2.1, bt_ne (lkB_ne hb).2.2.1⟩
  · intro k hk
    obtain ⟨b, hb, e⟩ := hat k hk
    rw [e]
    exact bt_ne (lkB_ne hb).2.2.2
  · rw [List.length_append]; omega
  · rw [linkQ_eq]; rfl
  · rw [linkQ_eq]; show (120 : Int) ≠ 93; decide
  · rw [linkQ_eq]; rfl
  · rw [linkQ_eq]; rfl

theorem text_lk : ∀ b : UInt8, (b = 91 ∨ b = 120 ∨ b = 40 ∨ b = 41 ∨ b = 97 ∨ b = 98 ∨ b = 46 ∨ b = 47 ∨ b = 32 ∨ b = 121) → TextB b := by
  intro b h
  unfold TextB
  rcases h with h | h | h | h | h | h | h | h | h | h <;> subst h <;> decide

theorem inl_link {P : Nat → List Int → Nat × List Int} {l R : List UInt8} (hP : POk P l l.length) (hl : l = [91, 120] ++ (93 :: 40 :: R)) (L : List Int) :
    inlL P l 0 l.length L = match shS l 4 1 with | some e => inlL P l e l.length (putR L 3 e 2) | none => inlL P l 3 l.length L := by
  have h1 := inl_skip P l (93 :: 40 :: R) L [91, 120] [] (by rw [hl]; simp) (fun b hb => text_lk b (by simp at hb; rcases hb with h | h <;> simp [h]))
  refine h1.trans ?_
  show inlL P l 2 l.length L = _
  have b2 : bt l 2 = 93 := by rw [hl]; rfl
  have b3 : bt l 3 = 40 := by rw [hl]; rfl
  have hlen : 4 ≤ l.length := by rw [hl]; simp
  have hstep : ∀ k' L'', inlStep P l l.length 2 L = (k', L'') → inlL P l 2 l.length L = inlL P l k' l.length L'' := by
    intro k' L'' e
    have hbd := inlStep_bound hP 2 L (by omega)
    rw [e] at hbd
    unfold inlL
    obtain ⟨d, hd⟩ : ∃ d, l.length - 2 = d + 1 := ⟨l.length - 3, by omega⟩
    rw [hd, inlN, if_pos (by omega), e]
    exact inlN_fuel hP _ _ _ (by simp only at hbd; omega) _ (by omega)
  have hsh := shutL_S l 4
  have hs : inlStep P l l.length 2 L = match shutL l 4 l.length with | some e => (e, putR L 3 e 2) | none => (3, L) := by
    rw [inlStep, if_neg (by rw [b2]; omega), if_neg (by rw [b2]; omega), if_pos ⟨b2, by omega, b3⟩]
    rfl
  rw [hsh] at hs
  cases hq : shS l 4 1 with
  | some e => rw [hq] at hs; exact hstep _ _ hs
  | none => rw [hq] at hs; exact hstep _ _ hs

theorem lkT_text (cs : List UInt8) (k : Nat) : ∀ b ∈ lkT cs k, b ≠ 92 ∧ b ≠ 40 ∧ b ≠ 41 := by
  intro b hb
  rcases lkT_mem cs k b hb with e | e | e | e <;> subst e <;> decide

theorem rest_text (cs T : List UInt8) (n : Nat) (hT : ∀ b ∈ T, b = 41 ∨ b = 32 ∨ b = 121) : ∀ b ∈ 40 :: (List.replicate n 40 ++ (lkT cs cs.length ++ (List.replicate n 41 ++ T))), TextB b := by
  intro b hb
  simp only [List.mem_cons, List.mem_append, List.mem_replicate] at hb
  apply text_lk
  rcases hb with h | h | h | h | h
  · simp [h]
  · simp [h.2]
  · rcases lkT_mem cs _ b h with e | e | e | e <;> simp [e]
  · simp [h.2]
  · rcases hT b h with e | e | e <;> simp [e]

/-- Where the bracket is still open: nothing is laid. -/
theorem inl_link_none {P : Nat → List Int → Nat × List Int} {l cs T : List UInt8} {n : Nat} (hP : POk P l l.length) (hl : l = [91, 120] ++ (93 :: 40 :: (List.replicate n 40 ++ (lkT cs cs.length ++ (List.replicate n 41 ++ T))))) (hT : ∀ b ∈ T, b = 41 ∨ b = 32 ∨ b = 121) (hs : shS l 4 1 = none) (L : List Int) :
    inlL P l 0 l.length L = L := by
  rw [inl_link hP hl, hs]
  have h1 := inl_skip P l [] L (40 :: (List.replicate n 40 ++ (lkT cs cs.length ++ (List.replicate n 41 ++ T)))) [91, 120, 93] (by rw [hl]; simp) (rest_text cs T n hT)
  have e : ([91, 120, 93] ++ 40 :: (List.replicate n 40 ++ (lkT cs cs.length ++ (List.replicate n 41 ++ T)))).length = l.length := by rw [hl]; simp
  rw [e, inl_end] at h1
  exact h1

theorem sh_upto {l cs T : List UInt8} {n : Nat} (hn : n < 32) (hl : l = [91, 120] ++ (93 :: 40 :: (List.replicate n 40 ++ (lkT cs cs.length ++ (List.replicate n 41 ++ T))))) :
    shS l 4 1 = shS l ([91, 120, 93, 40] ++ List.replicate n 40 ++ lkT cs cs.length ++ List.replicate n 41).length 1 := by
  have h1 := shS_open l (lkT cs cs.length ++ (List.replicate n 41 ++ T)) n [91, 120, 93, 40] 1 (by rw [hl]; simp) (by omega)
  have h2 := shS_text l (List.replicate n 41 ++ T) (1 + n) (lkT cs cs.length) ([91, 120, 93, 40] ++ List.replicate n 40) (by rw [hl]; simp) (lkT_text cs _)
  have h3 := shS_close l T n ([91, 120, 93, 40] ++ List.replicate n 40 ++ lkT cs cs.length) (1 + n) (by rw [hl]; simp) (by omega)
  have e1 : ([91, 120, 93, 40] ++ List.replicate n 40 : List UInt8).length = 4 + n := by simp; omega
  rw [e1] at h2
  refine (h1.trans h2).trans (h3.trans ?_)
  rw [show 1 + n - n = 1 by omega]
  congr 1
  simp only [List.length_append, List.length_replicate]

theorem segs_pos (L : List Int) (n : Nat) (h : 0 < n) : 0 < (segsTo L n).length := by
  obtain ⟨m, rfl⟩ : ∃ m, n = m + 1 := ⟨n - 1, by omega⟩
  obtain ⟨a, c, e⟩ := segsTo_getLast L m
  cases hq : segsTo L (m + 1) with
  | nil => rw [hq] at e; simp at e
  | cons x r => simp

theorem T3_ok : ∀ b ∈ ([41, 32, 121] : List UInt8), b = 41 ∨ b = 32 ∨ b = 121 := by decide
theorem T2_ok : ∀ b ∈ ([32, 121] : List UInt8), b = 41 ∨ b = 32 ∨ b = 121 := by decide
theorem T3_lk : ∀ b ∈ ([41, 32, 121] : List UInt8), LkB b := by unfold LkB; decide
theorem T2_lk : ∀ b ∈ ([32, 121] : List UInt8), LkB b := by unfold LkB; decide

theorem calm_no60 {l : List UInt8} (h : OneLine l) : ∀ k, k < l.length → bt l k ≠ 60 := fun k hk => (h.calm k hk).2.2

theorem markLinks_calls (a0 : Int) (shut : Bool) (cs : List UInt8) (v : Value) (w : World) (hE : Env w) (h0 : (Lit.int .u8 a0).wf = true) (hv : BytesV w v cs) :
    Calls Tryz.prog 3 #[.int .u8 a0, .bool shut, v] w fun e w' => e = .returned (.bool true) ∧ Below w.heap.size w w' := by
  have b0 : 0 ≤ a0 ∧ a0 ≤ 255 := by simpa [Lit.wf] using bounds_u8 h0
  obtain ⟨n, hn⟩ : ∃ n : Nat, a0 % 40 = (n : Int) := ⟨(a0 % 40).toNat, by omega⟩
  have hn40 : n < 40 := by omega
  have key : ∀ (T : List UInt8) (B : List UInt8), B = linkQ cs n ++ T → (∀ b ∈ T, LkB b) → (∀ b ∈ T, b = 41 ∨ b = 32 ∨ b = 121) → T.length ≤ 3 → 2 ≤ T.length → shS B 4 1 = none →
      OneLine B ∧ markL P0 B = inlL (P0 B.length) B 0 B.length (List.replicate B.length 1) ∧ (markL P0 B).length = B.length ∧ 0 < (segsTo (markL P0 B) B.length).length ∧ nth (markL P0 B) 3 = 1 ∧ nth (markL P0 B) 1 = 1 ∧ nth (markL P0 B) (B.length - 1) = 1 := by
    intro T B hB hT1 hT2 hl hl2 hs
    obtain ⟨hone, h10⟩ := link_one cs T n hn40 hT1 hl
    rw [← hB] at hone h10
    have hm := mark_bracket P0 B hone h10
    have hlen := hone.len
    have hi := inl_link_none (P0_ok B B.length) (hB.trans (linkQ_eq cs T n)) hT2 hs (List.replicate B.length 1)
    have hm2 := hm.trans hi
    exact ⟨hone, hm, by rw [hm2, List.length_replicate], segs_pos _ _ (by omega), by rw [hm2]; exact nth_replicate _ _ _ (by omega), by rw [hm2]; exact nth_replicate _ _ _ (by omega), by rw [hm2]; exact nth_replicate _ _ _ (by omega)⟩
  have many : ∀ (T B : List UInt8), B = linkQ cs n ++ T → 32 ≤ n → shS B 4 1 = none := by
    intro T B hB h32
    exact shS_many B (lkT cs cs.length ++ (List.replicate n 41 ++ T)) n [91, 120, 93, 40] 1 (by rw [hB, linkQ_eq]; simp) (by omega) (by omega)
  cases shut
  · obtain ⟨B, hB⟩ : ∃ B, B = linkQ cs n ++ [32, 121] := ⟨_, rfl⟩
    have hs : shS B 4 1 = none := by
      by_cases h32 : n < 32
      · have hB2 := hB.trans (linkQ_eq cs [32, 121] n)
        rw [sh_upto h32 hB2]
        have h1 := shS_text B [] 1 [32, 121] ([91, 120, 93, 40] ++ List.replicate n 40 ++ lkT cs cs.length ++ List.replicate n 41) (by rw [hB2]; simp) (by decide)
        have e : ([91, 120, 93, 40] ++ List.replicate n 40 ++ lkT cs cs.length ++ List.replicate n 41 ++ [32, 121]).length = B.length := by rw [hB2]; simp only [List.length_append, List.length_cons, List.length_nil]; omega
        rw [h1, e, shS_end]
      · exact many _ B hB (by omega)
    obtain ⟨k1, k2, k3, k4, k5, k6, k7⟩ := key _ B hB T2_lk T2_ok (by decide) (by decide) hs
    exact (links_walk_o a0 n cs B v w hE hv b0 hn hB k1 k2 k3 k4 k5 k6 k7 (calm_no60 k1)).mono fun _ _ ⟨h1, h2⟩ => ⟨h1, h2.below⟩
  · obtain ⟨B, hB⟩ : ∃ B, B = linkQ cs n ++ [41, 32, 121] := ⟨_, rfl⟩
    by_cases h32 : n < 32
    · have hB2 := hB.trans (linkQ_eq cs [41, 32, 121] n)
      obtain ⟨hone, h10⟩ := link_one cs [41, 32, 121] n hn40 T3_lk (by decide)
      rw [← hB] at hone h10
      have hm := mark_bracket P0 B hone h10
      have hlen := hone.len
      have el : ([91, 120, 93, 40] ++ List.replicate n 40 ++ lkT cs cs.length ++ List.replicate n 41 : List UInt8).length + 3 = B.length := by rw [hB2]; simp only [List.length_append, List.length_cons, List.length_nil]; omega
      have hs : shS B 4 1 = some (B.length - 2) := by
        rw [sh_upto h32 hB2]
        have hb : bt B ([91, 120, 93, 40] ++ List.replicate n 40 ++ lkT cs cs.length ++ List.replicate n 41 : List UInt8).length = 41 := by
          have := bt_at ([91, 120, 93, 40] ++ List.replicate n 40 ++ lkT cs cs.length ++ List.replicate n 41) [32, 121] 41
          rw [show B = ([91, 120, 93, 40] ++ List.replicate n 40 ++ lkT cs cs.length ++ List.replicate n 41) ++ 41 :: [32, 121] by rw [hB2]; simp]
          exact this
        rw [shS_step _ _ _ (by omega) (by rw [hb]; decide), if_neg (by rw [hb]; decide), if_pos hb, if_pos rfl]
        congr 1; omega
      have hi := inl_link (P0_ok B B.length) hB2 (List.replicate B.length 1)
      rw [hs] at hi
      have h3 := inl_skip (P0 B.length) B [] (putR (List.replicate B.length 1) 3 (B.length - 2) 2) [32, 121] ([91, 120, 93, 40] ++ List.replicate n 40 ++ lkT cs cs.length ++ List.replicate n 41 ++ [41]) (by rw [hB2]; simp) (fun b hb => text_lk b (by simp at hb; rcases hb with h | h <;> simp [h]))
      have e1 : ([91, 120, 93, 40] ++ List.replicate n 40 ++ lkT cs cs.length ++ List.replicate n 41 ++ [41] : List UInt8).length = B.length - 2 := by rw [List.length_append, List.length_singleton]; omega
      have e2 : ([91, 120, 93, 40] ++ List.replicate n 40 ++ lkT cs cs.length ++ List.replicate n 41 ++ [41] ++ [32, 121] : List UInt8).length = B.length := by rw [List.length_append, e1]; show B.length - 2 + 2 = B.length; omega
      rw [e1, e2, inl_end] at h3
      have hm2 := hm.trans (hi.trans h3)
      have hge : ∀ k, k < B.length → nth (markL P0 B) k = if 3 ≤ k ∧ k < B.length - 2 then 2 else 1 := by
        intro k hk
        rw [hm2, putR_get _ _ _ _ _ (by rw [List.length_replicate]; exact hk), nth_replicate _ _ _ hk]
      have hB6 : 6 < B.length := by rw [← el]; simp
      exact (links_walk_s a0 n cs B v w hE hv b0 hn h32 hB hone hm (by rw [hm2, putR_length, List.length_replicate]) (segs_pos _ _ (by omega)) (by rw [hge 3 (by omega), if_pos (by omega)]) (by rw [hge 1 (by omega), if_neg (by omega)]) (by rw [hge _ (by omega), if_neg (by omega)]) (calm_no60 hone)).mono fun _ _ ⟨h1, h2⟩ => ⟨h1, h2.below⟩
    · obtain ⟨k1, k2, k3, k4, k5, k6, k7⟩ := key _ B hB T3_lk T3_ok (by decide) (by decide) (many _ B hB (by omega))
      exact (links_walk_d a0 n cs B v w hE hv b0 hn (by omega) hB k1 k2 k3 k4 k5 k6 k7 (calm_no60 k1)).mono fun _ _ ⟨h1, h2⟩ => ⟨h1, h2.below⟩
end Go.Proofs.YtpohopmggpiomaaGreatDoor
