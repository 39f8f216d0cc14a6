/-
  mark.pointed, plainly; nothing ahead of a line counts for what lies behind.
-/
import Derived.Test.YtpohopmggpiomaaDoorHtmlP
import Derived.Test.YtpohopmggpiomaaDoorFrontP
import Derived.Lib.IndexMore
namespace Go.Proofs.YtpohopmggpiomaaDoor
open Go.RowKit

def endP (c : Int) : Bool := !(c == 62) && (!(c == 32) && (!(c == 9) && (!(c == 13) && !(c == 10))))
/-- A link in pointed brackets: how long. -/
def linkS (s : List UInt8) : Option Nat :=
  if whL endP s 0 < s.length ∧ 3 ≤ whL (quoQ 58) s 0 ∧ whL (quoQ 58) s 0 < whL endP s 0 ∧ bt s (whL endP s 0) = 62 ∧ whL endP s 0 ≤ whL (quoQ 60) s 1 ∧ whL (quoQ 58) s 0 ≤ whL letP s 1 then some (whL endP s 0 + 1) else none
def remT : List UInt8 := [60, 33, 45, 45]
def remE : List UInt8 := [45, 45, 62]
def remS (s : List UInt8) : Option Nat :=
  if s.take 4 = remT ∧ 0 ≤ Lib.index (s.drop 4) remE then some ((Lib.index (s.drop 4) remE).toNat + 7) else none
def layL (at_ : Nat) (t : TagR) (L : List Int) : List Int := t.prose.foldl (fun L q => putR L q.1 (q.1 + q.2) 1) (putR L at_ t.fin 2)
/-- What stands in pointed brackets at k, on a line that ends at to. -/
def pntL (l : List UInt8) (to k : Nat) (L : List Int) : Nat × List Int :=
  match linkS (seg l k to) with
  | some e => (k + e, putR L k (k + e) 2)
  | none => match remS (seg l k to) with
    | some e => (k + e, putR L k (k + e) 3)
    | none => match readL (l.take to) k with
      | some t => (t.fin, layL k t L)
      | none => (k + 1, L)

theorem putR_pre (A B : List Int) (i j : Nat) (x : Int) : putR (A ++ B) (A.length + i) (A.length + j) x = A ++ putR B i j x := by
  apply List.ext_getElem (by simp [putR])
  intro k h1 h2
  simp only [putR, List.getElem_mapIdx, List.getElem_append]
  by_cases h : k < A.length
  · simp only [h, dif_pos]
    rw [if_neg (by omega)]
  · simp only [h, dif_neg, not_false_eq_true]
    split
    · rw [if_pos (by omega)]
    · rw [if_neg (by omega)]
theorem layL_length (at_ : Nat) (t : TagR) (L : List Int) : (layL at_ t L).length = L.length := by
  unfold layL
  have : ∀ (ps : List (Nat × Nat)) (M : List Int), (ps.foldl (fun L q => putR L q.1 (q.1 + q.2) 1) M).length = M.length := by
    intro ps
    induction ps with
    | nil => intro M; rfl
    | cons q ps ih => intro M; rw [List.foldl_cons, ih, putR_length]
  rw [this, putR_length]
theorem layL_pre (A B : List Int) (at_ : Nat) (t : TagR) : layL (A.length + at_) (mvT A.length t) (A ++ B) = A ++ layL at_ t B := by
  unfold layL mvT
  rw [putR_pre]
  simp only
  generalize putR B at_ t.fin 2 = M
  induction t.prose generalizing M with
  | nil => rfl
  | cons q ps ih =>
    rw [List.map_cons, List.foldl_cons, List.foldl_cons]
    have : putR (A ++ M) (mvQ A.length q).1 ((mvQ A.length q).1 + (mvQ A.length q).2) 1 = A ++ putR M q.1 (q.1 + q.2) 1 := by
      rw [← putR_pre]
      simp only [mvQ, Nat.add_assoc]
    rw [this, ih]
/-- A step moved. -/
def mvS (A : List Int) (r : Nat × List Int) : Nat × List Int := (A.length + r.1, A ++ r.2)
theorem pntL_pre (a s : List UInt8) (A B : List Int) (h : A.length = a.length) (to k : Nat) : pntL (a ++ s) (a.length + to) (a.length + k) (A ++ B) = mvS A (pntL s to k B) := by
  unfold pntL
  rw [seg_pre]
  cases linkS (seg s k to) with
  | some e => simp only [mvS]; rw [← h, show A.length + k + e = A.length + (k + e) by omega, putR_pre]
  | none =>
    simp only
    cases remS (seg s k to) with
    | some e => simp only [mvS]; rw [← h, show A.length + k + e = A.length + (k + e) by omega, putR_pre]
    | none =>
      simp only
      rw [List.take_append, List.take_of_length_le (by omega), show a.length + to - a.length = to by omega, readL_pre]
      cases readL (s.take to) k with
      | some t => simp only [Option.map_some, mvS]; rw [← h, layL_pre]; rfl
      | none => simp only [Option.map_none, mvS]; rw [← h]; rfl

theorem linkS_bound {s : List UInt8} {e : Nat} (h : linkS s = some e) : 0 < e ∧ e ≤ s.length := by
  unfold linkS at h
  split at h
  · simp only [Option.some.injEq] at h; omega
  · simp at h
theorem remS_bound {s : List UInt8} {e : Nat} (h : remS s = some e) : 0 < e ∧ e ≤ s.length := by
  unfold remS at h
  split at h
  · rename_i hh
    simp only [Option.some.injEq] at h
    have h1 := Lib.index_room (s.drop 4) remE hh.2
    have h4 : 4 ≤ s.length := by
      have := congrArg List.length hh.1
      simp only [List.length_take, remT, List.length_cons, List.length_nil] at this
      omega
    rw [List.length_drop] at h1
    simp only [remE, List.length_cons, List.length_nil] at h1
    have := hh.2
    simp only [remE] at this h
    omega
  · simp at h
theorem pntL_ok (l : List UInt8) (to : Nat) (hto : to ≤ l.length) : POk (pntL l to) l to := by
  intro k L hk h60
  unfold pntL
  cases h1 : linkS (seg l k to) with
  | some e =>
    have := linkS_bound h1
    rw [seg_length _ _ _ hto] at this
    simp only [putR_length, and_true]
    omega
  | none =>
    simp only
    cases h2 : remS (seg l k to) with
    | some e =>
      have := remS_bound h2
      rw [seg_length _ _ _ hto] at this
      simp only [putR_length, and_true]
      omega
    | none =>
      simp only
      cases h3 : readL (l.take to) k with
      | some t =>
        have := readL_bound _ _ _ h3
        rw [List.length_take] at this
        simp only [layL_length, and_true]
        omega
      | none => simp only [and_true]; omega

theorem runN_pre (a s : List UInt8) (k to : Nat) : ∀ d n, runN (a ++ s) (a.length + k) (a.length + to) d n = runN s k to d n := by
  intro d
  induction d with
  | zero => intro n; rfl
  | succ d ih =>
    intro n
    rw [runN, runN, bt_pre, show a.length + k + n = a.length + (k + n) by omega, bt_pre, ih]
    by_cases h : k + n < to ∧ bt s (k + n) = bt s k
    · rw [if_pos ⟨by omega, h.2⟩, if_pos h]
    · rw [if_neg (fun hh => h ⟨by omega, hh.2⟩), if_neg h]
theorem runL_pre (a s : List UInt8) (k to : Nat) : runL (a ++ s) (a.length + k) (a.length + to) = runL s k to := by
  unfold runL
  rw [runN_pre, show a.length + to - (a.length + k) = to - k by omega]
theorem spanN_pre (a s : List UInt8) (to n : Nat) : ∀ d k, spanN (a ++ s) (a.length + to) n d (a.length + k) = (spanN s to n d k).map (a.length + ·) := by
  intro d
  induction d with
  | zero => intro k; rfl
  | succ d ih =>
    intro k
    rw [spanN, spanN, bt_pre, runL_pre]
    by_cases h : k < to
    · rw [if_pos (by omega), if_pos h]
      by_cases h2 : bt s k = 96
      · rw [if_pos h2, if_pos h2]
        by_cases h3 : runL s k to = n
        · rw [if_pos h3, if_pos h3, Nat.add_assoc]; rfl
        · rw [if_neg h3, if_neg h3, Nat.add_assoc, ih]
      · rw [if_neg h2, if_neg h2, Nat.add_assoc, ih]
    · rw [if_neg (by omega), if_neg h]; rfl
theorem spanL_pre (a s : List UInt8) (k to n : Nat) : spanL (a ++ s) (a.length + k) (a.length + to) n = (spanL s k to n).map (a.length + ·) := by
  unfold spanL
  rw [spanN_pre, show a.length + to - (a.length + k) = to - k by omega]
theorem shutN_pre (a s : List UInt8) (to : Nat) : ∀ d k deep, shutN (a ++ s) (a.length + to) d (a.length + k) deep = (shutN s to d k deep).map (a.length + ·) := by
  intro d
  induction d with
  | zero => intro k deep; rfl
  | succ d ih =>
    intro k deep
    rw [shutN, shutN, bt_pre]
    by_cases h : k < to
    · rw [if_pos (by omega), if_pos h]
      split
      · rw [Nat.add_assoc, Nat.add_assoc, ih]
      · split
        · split
          · rfl
          · rw [Nat.add_assoc, ih]
        · split
          · split
            · rw [Nat.add_assoc]; rfl
            · rw [Nat.add_assoc, ih]
          · rw [Nat.add_assoc, ih]
    · rw [if_neg (by omega), if_neg h]; rfl
theorem shutL_pre (a s : List UInt8) (k to : Nat) : shutL (a ++ s) (a.length + k) (a.length + to) = (shutL s k to).map (a.length + ·) := by
  unfold shutL
  rw [shutN_pre, show a.length + to - (a.length + k) = to - k by omega]

theorem inlStep_pre (a s : List UInt8) (A B : List Int) (h : A.length = a.length) (to k : Nat) : inlStep (pntL (a ++ s) (a.length + to)) (a ++ s) (a.length + to) (a.length + k) (A ++ B) = mvS A (inlStep (pntL s to) s to k B) := by
  unfold inlStep
  rw [pntL_pre a s A B h, bt_pre, runL_pre, show a.length + k + 1 = a.length + (k + 1) by omega, show a.length + k + 2 = a.length + (k + 2) by omega, bt_pre, show a.length + k + runL s k to = a.length + (k + runL s k to) by omega, spanL_pre, shutL_pre]
  by_cases h1 : bt s k = 92 ∧ k + 1 < to ∧ punctB (bt s (k + 1)) = true
  · rw [if_pos ⟨h1.1, by omega, h1.2.2⟩, if_pos h1]; simp only [mvS, h]
  · rw [if_neg (fun hh => h1 ⟨hh.1, by omega, hh.2.2⟩), if_neg h1]
    by_cases h2 : bt s k = 96
    · rw [if_pos h2, if_pos h2]
      cases spanL s (k + runL s k to) to (runL s k to) with
      | some e => simp only [Option.map_some, mvS]; rw [← h, putR_pre]
      | none => simp only [Option.map_none, mvS]; rw [← h]
    · rw [if_neg h2, if_neg h2]
      by_cases h3 : bt s k = 93 ∧ k + 1 < to ∧ bt s (k + 1) = 40
      · rw [if_pos ⟨h3.1, by omega, h3.2.2⟩, if_pos h3]
        cases shutL s (k + 2) to with
        | some e => simp only [Option.map_some, mvS]; rw [← h, putR_pre]
        | none => simp only [Option.map_none, mvS]; rw [← h]
      · rw [if_neg (fun hh => h3 ⟨hh.1, by omega, hh.2.2⟩), if_neg h3]
        by_cases h4 : bt s k = 60
        · rw [if_pos h4, if_pos h4]
        · rw [if_neg h4, if_neg h4]; simp only [mvS, h]
theorem inlN_pre (a s : List UInt8) (A : List Int) (h : A.length = a.length) (to : Nat) : ∀ d k B, inlN (pntL (a ++ s) (a.length + to)) (a ++ s) (a.length + to) d (a.length + k) (A ++ B) = A ++ inlN (pntL s to) s to d k B := by
  intro d
  induction d with
  | zero => intro k B; rfl
  | succ d ih =>
    intro k B
    rw [inlN, inlN, inlStep_pre a s A B h]
    by_cases hk : k < to
    · rw [if_pos (by omega), if_pos hk]
      simp only [mvS, h]
      exact ih _ _
    · rw [if_neg (by omega), if_neg hk]
theorem lineStep_pre (a s : List UInt8) (A B : List Int) (h : A.length = a.length) (r : List UInt8) (at_ to : Nat) (st : St) : lineStep (pntL (a ++ s)) (a ++ s) r (a.length + at_) (a.length + to) st (A ++ B) = ((lineStep (pntL s) s r at_ to st B).1, A ++ (lineStep (pntL s) s r at_ to st B).2) := by
  have hp : ∀ x, putR (A ++ B) (a.length + at_) (a.length + to) x = A ++ putR B at_ to x := fun x => by rw [← h]; exact putR_pre _ _ _ _ _
  unfold lineStep
  cases st.fence with
  | some q => simp only; rw [hp]
  | none =>
    simp only
    split
    · rfl
    · split
      · rw [hp]
      · split
        · rw [hp]
        · split
          · rw [hp]
          · unfold inlL
            rw [show a.length + to - (a.length + at_) = to - at_ by omega, inlN_pre a s A h]
theorem lexN_pre (a s : List UInt8) (A : List Int) (h : A.length = a.length) : ∀ (rows : List (List UInt8)) (i j at_ : Nat) (st : St) (B : List Int), lexN (pntL (a ++ s)) (a ++ s) 0 rows i (a.length + at_) st (A ++ B) = A ++ lexN (pntL s) s 0 rows j at_ st B := by
  intro rows
  induction rows with
  | nil => intro i j at_ st B; rfl
  | cons r rows ih =>
    intro i j at_ st B
    rw [lexN, lexN, if_neg (by omega), if_neg (by omega), Nat.add_assoc, lineStep_pre a s A B h]
    exact ih _ _ _ _ _
end Go.Proofs.YtpohopmggpiomaaDoor
