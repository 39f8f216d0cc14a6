/-
  html.Read, plainly: what a tag is; that nothing ahead of it counts.
-/
import Derived.Test.YtpohopmggpiomaaDoorHtmlW
namespace Go.Proofs.YtpohopmggpiomaaDoor
open Go.RowKit

def lowB (b : UInt8) : UInt8 := if 65 ≤ b ∧ b ≤ 90 then b + 32 else b
def smallL (l : List UInt8) : List UInt8 := l.map lowB
def isKey (s : List UInt8) : Bool := s == [97, 108, 116] || s == [116, 105, 116, 108, 101]
def quoP (c : Int) : Bool := c == 34 || c == 39
/-- A quoted value that begins at k with its sign: where it ends. -/
def quoE (l : List UInt8) (k : Nat) : Nat := whL (quoQ (bt l k)) l (k + 1)
/-- The value behind a name's end: where it goes on, where the prose is, how long, whether there is some; `key`: the name counts. -/
def valL (l : List UInt8) (key : Bool) (k : Nat) : Nat × Nat × Nat × Bool :=
  if k < l.length ∧ quoP (bt l k) = true then
    (if quoE l k < l.length then quoE l k + 1 else quoE l k, k + 1, quoE l k - (k + 1), key && decide (0 < quoE l k - (k + 1)))
  else (whL valP l k, 0, 0, false)
def eqL (l : List UInt8) (key : Bool) (k : Nat) : Nat × Nat × Nat × Bool :=
  if k < l.length ∧ bt l k = 61 then valL l key (whL blaP l (k + 1)) else (k, 0, 0, false)
def attrL (l : List UInt8) (k : Nat) : Nat × Nat × Nat × Bool :=
  eqL l (isKey (smallL (seg l k (whL keyP l (k + 1))))) (whL blaP l (whL keyP l (k + 1)))
def putA (a : Nat × Nat × Nat × Bool) (ps : List (Nat × Nat)) : List (Nat × Nat) := if a.2.2.2 then ps ++ [(a.2.1, a.2.2.1)] else ps
def tagN (l : List UInt8) : Nat → Nat → List (Nat × Nat) → Option (Nat × List (Nat × Nat))
  | 0, _, _ => none
  | d + 1, k, ps =>
    if whL relP l k < l.length then
      (if bt l (whL relP l k) = 62 then some (whL relP l k + 1, ps) else tagN l d (attrL l (whL relP l k)).1 (putA (attrL l (whL relP l k)) ps))
    else none
structure TagR where
  fin : Nat
  name : List UInt8
  closes : Bool
  prose : List (Nat × Nat)
def tagAt (l : List UInt8) (c : Bool) (k : Nat) : Option TagR :=
  if k < l.length ∧ letP (bt l k) = true then
    (tagN l (l.length + 1 - whL namP l k) (whL namP l k) []).map fun r => ⟨r.1, smallL (seg l k (whL namP l k)), c, r.2⟩
  else none
def clsP (l : List UInt8) (k : Nat) : Bool := decide (k < l.length) && (bt l k == 47)
def readL (l : List UInt8) (k : Nat) : Option TagR :=
  if k < l.length ∧ bt l k = 60 then tagAt l (clsP l (k + 1)) (if clsP l (k + 1) then k + 1 + 1 else k + 1) else none

theorem seg_length (l : List UInt8) (i j : Nat) (h : j ≤ l.length) : (seg l i j).length = j - i := by
  unfold seg
  rw [List.length_take, List.length_drop]
  omega
theorem whN_le (p : Int → Bool) (l : List UInt8) : ∀ d k, k ≤ whN p l d k ∧ (k ≤ l.length → whN p l d k ≤ l.length) := by
  intro d
  induction d with
  | zero => intro k; simp [whN]
  | succ d ih =>
    intro k
    rw [whN]
    split
    · rename_i h
      have := ih (k + 1)
      exact ⟨by omega, fun _ => this.2 (by omega)⟩
    · simp
theorem whL_ge (p : Int → Bool) (l : List UInt8) (k : Nat) : k ≤ whL p l k := (whN_le p l _ k).1
theorem whL_le (p : Int → Bool) (l : List UInt8) (k : Nat) (h : k ≤ l.length) : whL p l k ≤ l.length := (whN_le p l _ k).2 h

theorem valL_bound (l : List UInt8) (key : Bool) (k : Nat) (h : k ≤ l.length) : k ≤ (valL l key k).1 ∧ (valL l key k).1 ≤ l.length ∧ (valL l key k).2.1 + (valL l key k).2.2.1 ≤ l.length := by
  unfold valL
  split
  · rename_i hk
    have h1 : k + 1 ≤ quoE l k := whL_ge (quoQ (bt l k)) l (k + 1)
    have h2 : quoE l k ≤ l.length := whL_le (quoQ (bt l k)) l (k + 1) (by omega)
    generalize quoE l k = m at h1 h2
    by_cases hm : m < l.length
    · simp only [hm, if_true]; omega
    · simp only [hm, if_false]; omega
  · exact ⟨whL_ge _ _ _, whL_le _ _ _ h, by simp⟩
theorem eqL_bound (l : List UInt8) (key : Bool) (k : Nat) (h : k ≤ l.length) : k ≤ (eqL l key k).1 ∧ (eqL l key k).1 ≤ l.length ∧ (eqL l key k).2.1 + (eqL l key k).2.2.1 ≤ l.length := by
  unfold eqL
  split
  · rename_i hk
    have h1 := whL_ge blaP l (k + 1)
    have h3 := valL_bound l key (whL blaP l (k + 1)) (whL_le blaP l (k + 1) (by omega))
    exact ⟨by omega, h3.2⟩
  · exact ⟨Nat.le_refl _, h, by simp⟩
theorem attrL_bound (l : List UInt8) (k : Nat) (h : k < l.length) : k < (attrL l k).1 ∧ (attrL l k).1 ≤ l.length ∧ (attrL l k).2.1 + (attrL l k).2.2.1 ≤ l.length := by
  unfold attrL
  have h1 := whL_ge keyP l (k + 1)
  have h2 := whL_ge blaP l (whL keyP l (k + 1))
  have h3 := eqL_bound l (isKey (smallL (seg l k (whL keyP l (k + 1))))) (whL blaP l (whL keyP l (k + 1))) (whL_le _ _ _ (whL_le _ _ _ (by omega)))
  exact ⟨by omega, h3.2⟩

theorem tagN_bound (l : List UInt8) : ∀ d k ps r, tagN l d k ps = some r → (∀ q ∈ ps, q.1 + q.2 ≤ l.length) → k < r.1 ∧ r.1 ≤ l.length ∧ ∀ q ∈ r.2, q.1 + q.2 ≤ l.length := by
  intro d
  induction d with
  | zero => intro k ps r h; simp [tagN] at h
  | succ d ih =>
    intro k ps r h hps
    rw [tagN] at h
    have h1 := whL_ge relP l k
    split at h
    · rename_i hk
      have ha := attrL_bound l (whL relP l k) hk
      split at h
      · simp only [Option.some.injEq] at h
        subst h
        exact ⟨by simp only; omega, by simp only; omega, hps⟩
      · have := ih _ _ _ h (by
          intro q hq
          unfold putA at hq
          split at hq
          · rw [List.mem_append, List.mem_singleton] at hq
            rcases hq with hq | rfl
            · exact hps q hq
            · exact ha.2.2
          · exact hps q hq)
        exact ⟨by omega, this.2⟩
    · simp at h

theorem tagN_fuel (l : List UInt8) : ∀ d k ps, l.length < k + d → ∀ e, l.length < k + e → tagN l d k ps = tagN l e k ps := by
  intro d
  induction d with
  | zero =>
    intro k ps h e he
    have h1 := whL_ge relP l k
    cases e with
    | zero => rfl
    | succ e => rw [tagN, tagN, if_neg (by omega)]
  | succ d ih =>
    intro k ps h e he
    have h1 := whL_ge relP l k
    cases e with
    | zero => rw [tagN, tagN, if_neg (by omega)]
    | succ e =>
      rw [tagN, tagN]
      split
      · rename_i hk
        split
        · rfl
        · have := attrL_bound l (whL relP l k) hk
          exact ih _ _ (by omega) _ (by omega)
      · rfl

theorem tagAt_bound (l : List UInt8) (c : Bool) (k : Nat) (t : TagR) (h : tagAt l c k = some t) : k < t.fin ∧ t.fin ≤ l.length ∧ ∀ q ∈ t.prose, q.1 + q.2 ≤ l.length := by
  unfold tagAt at h
  split at h
  · rw [Option.map_eq_some_iff] at h
    obtain ⟨r, h1, rfl⟩ := h
    have := tagN_bound _ _ _ _ _ h1 (by simp)
    have h2 := whL_ge namP l k
    exact ⟨by simp only; omega, this.2⟩
  · simp at h
theorem readL_bound (l : List UInt8) (k : Nat) (t : TagR) (h : readL l k = some t) : k < t.fin ∧ t.fin ≤ l.length ∧ ∀ q ∈ t.prose, q.1 + q.2 ≤ l.length := by
  unfold readL at h
  split at h
  · have := tagAt_bound _ _ _ _ h
    refine ⟨?_, this.2⟩
    have := this.1
    split at this <;> omega
  · simp at h

theorem tagN_len (l : List UInt8) : ∀ d k ps r, tagN l d k ps = some r → ps.length ≤ k → r.2.length ≤ l.length := by
  intro d
  induction d with
  | zero => intro k ps r h; simp [tagN] at h
  | succ d ih =>
    intro k ps r h hps
    rw [tagN] at h
    have h1 := whL_ge relP l k
    split at h
    · rename_i hk
      have ha := attrL_bound l (whL relP l k) hk
      split at h
      · simp only [Option.some.injEq] at h
        subst h
        simp only
        omega
      · refine ih _ _ _ h ?_
        unfold putA
        split
        · rw [List.length_append, List.length_singleton]; omega
        · omega
    · simp at h
theorem tagAt_len (l : List UInt8) (c : Bool) (k : Nat) (t : TagR) (h : tagAt l c k = some t) : t.prose.length ≤ l.length := by
  unfold tagAt at h
  split at h
  · rw [Option.map_eq_some_iff] at h
    obtain ⟨r, h1, rfl⟩ := h
    exact tagN_len _ _ _ _ _ h1 (by simp)
  · simp at h
theorem ReadLen {l : List UInt8} {k : Nat} {t : TagR} (h : readL l k = some t) : t.prose.length ≤ l.length := by
  unfold readL at h
  split at h
  · exact tagAt_len _ _ _ _ h
  · simp at h

/-! Nothing ahead counts. -/
theorem bt_pre (a s : List UInt8) (k : Nat) : bt (a ++ s) (a.length + k) = bt s k := by
  simp [bt, List.getD_eq_getElem?_getD, List.getElem?_append_right]
theorem seg_pre (a s : List UInt8) (i j : Nat) : seg (a ++ s) (a.length + i) (a.length + j) = seg s i j := by
  unfold seg
  rw [show a.length + j - (a.length + i) = j - i by omega, List.drop_length_add_append]
theorem whN_pre (p : Int → Bool) (a s : List UInt8) : ∀ d k, whN p (a ++ s) d (a.length + k) = a.length + whN p s d k := by
  intro d
  induction d with
  | zero => intro k; rfl
  | succ d ih =>
    intro k
    rw [whN, whN, bt_pre, List.length_append]
    by_cases h : k < s.length ∧ p (bt s k) = true
    · rw [if_pos ⟨by omega, h.2⟩, if_pos h, ← ih (k + 1)]; rfl
    · rw [if_neg (fun hh => h ⟨by omega, hh.2⟩), if_neg h]
theorem whL_pre (p : Int → Bool) (a s : List UInt8) (k : Nat) : whL p (a ++ s) (a.length + k) = a.length + whL p s k := by
  unfold whL
  rw [whN_pre, List.length_append, show a.length + s.length - (a.length + k) = s.length - k by omega]
/-- A place moved. -/
def MvA (n : Nat) (x y : Nat × Nat × Nat × Bool) : Prop := x.1 = n + y.1 ∧ x.2.2.2 = y.2.2.2 ∧ (y.2.2.2 = true → x.2.1 = n + y.2.1 ∧ x.2.2.1 = y.2.2.1)
def mvQ (n : Nat) (q : Nat × Nat) : Nat × Nat := (n + q.1, q.2)
theorem quoE_pre (a s : List UInt8) (k : Nat) : quoE (a ++ s) (a.length + k) = a.length + quoE s k := by
  unfold quoE
  rw [bt_pre, show a.length + k + 1 = a.length + (k + 1) by omega, whL_pre]
theorem valL_pre (a s : List UInt8) (key : Bool) (k : Nat) : MvA a.length (valL (a ++ s) key (a.length + k)) (valL s key k) := by
  unfold valL
  rw [bt_pre, List.length_append, quoE_pre, whL_pre]
  by_cases h : k < s.length ∧ quoP (bt s k) = true
  · rw [if_pos ⟨by omega, h.2⟩, if_pos h]
    have e : a.length + quoE s k - (a.length + k + 1) = quoE s k - (k + 1) := by omega
    refine ⟨?_, ?_, fun _ => ⟨?_, ?_⟩⟩
    · simp only
      by_cases hq : quoE s k < s.length
      · rw [if_pos (by omega), if_pos hq]; rfl
      · rw [if_neg (by omega), if_neg hq]
    · simp only; rw [e]
    · simp only; omega
    · simp only; rw [e]
  · rw [if_neg (fun hh => h ⟨by omega, hh.2⟩), if_neg h]
    exact ⟨rfl, rfl, fun h => by simp at h⟩
theorem eqL_pre (a s : List UInt8) (key : Bool) (k : Nat) : MvA a.length (eqL (a ++ s) key (a.length + k)) (eqL s key k) := by
  unfold eqL
  rw [bt_pre, List.length_append, show a.length + k + 1 = a.length + (k + 1) by omega, whL_pre]
  by_cases h : k < s.length ∧ bt s k = 61
  · rw [if_pos ⟨by omega, h.2⟩, if_pos h]
    exact valL_pre a s key _
  · rw [if_neg (fun hh => h ⟨by omega, hh.2⟩), if_neg h]
    exact ⟨rfl, rfl, fun h => by simp at h⟩
theorem attrL_pre (a s : List UInt8) (k : Nat) : MvA a.length (attrL (a ++ s) (a.length + k)) (attrL s k) := by
  unfold attrL
  rw [show a.length + k + 1 = a.length + (k + 1) by omega, whL_pre, seg_pre, whL_pre]
  exact eqL_pre a s _ _
theorem putA_pre {n : Nat} {x y : Nat × Nat × Nat × Bool} (h : MvA n x y) (ps : List (Nat × Nat)) : putA x (ps.map (mvQ n)) = (putA y ps).map (mvQ n) := by
  unfold putA
  rw [h.2.1]
  split
  · rename_i hy
    have := h.2.2 hy
    rw [this.1, this.2]
    simp [mvQ]
  · rfl
theorem tagN_pre (a s : List UInt8) : ∀ d k ps, tagN (a ++ s) d (a.length + k) (ps.map (mvQ a.length)) = (tagN s d k ps).map fun r => (a.length + r.1, r.2.map (mvQ a.length)) := by
  intro d
  induction d with
  | zero => intro k ps; rfl
  | succ d ih =>
    intro k ps
    rw [tagN, tagN, whL_pre, List.length_append, bt_pre]
    by_cases h : whL relP s k < s.length
    · rw [if_pos (by omega), if_pos h]
      by_cases h62 : bt s (whL relP s k) = 62
      · rw [if_pos h62, if_pos h62]; rfl
      · have hm := attrL_pre a s (whL relP s k)
        rw [if_neg h62, if_neg h62, putA_pre hm, hm.1]
        exact ih _ _
    · rw [if_neg (by omega), if_neg h]; rfl
def mvT (n : Nat) (t : TagR) : TagR := ⟨n + t.fin, t.name, t.closes, t.prose.map (mvQ n)⟩
theorem tagAt_pre (a s : List UInt8) (c : Bool) (k : Nat) : tagAt (a ++ s) c (a.length + k) = (tagAt s c k).map (mvT a.length) := by
  unfold tagAt
  rw [whL_pre, List.length_append, bt_pre, seg_pre, show a.length + s.length + 1 - (a.length + whL namP s k) = s.length + 1 - whL namP s k by omega]
  by_cases h : k < s.length ∧ letP (bt s k) = true
  · rw [if_pos ⟨by omega, h.2⟩, if_pos h]
    have := tagN_pre a s (s.length + 1 - whL namP s k) (whL namP s k) []
    rw [List.map_nil] at this
    rw [this, Option.map_map, Option.map_map]
    rfl
  · rw [if_neg (fun hh => h ⟨by omega, hh.2⟩), if_neg h]; rfl
theorem readL_pre (a s : List UInt8) (k : Nat) : readL (a ++ s) (a.length + k) = (readL s k).map (mvT a.length) := by
  have e : clsP (a ++ s) (a.length + (k + 1)) = clsP s (k + 1) := by
    unfold clsP
    rw [bt_pre, List.length_append]
    congr 1
    simp
  unfold readL
  rw [bt_pre, List.length_append, show a.length + k + 1 = a.length + (k + 1) by omega, e]
  by_cases h : k < s.length ∧ bt s k = 60
  · rw [if_pos ⟨by omega, h.2⟩, if_pos h, ← tagAt_pre]
    congr 1
    split <;> rfl
  · rw [if_neg (fun hh => h ⟨by omega, hh.2⟩), if_neg h]; rfl
end Go.Proofs.YtpohopmggpiomaaDoor
