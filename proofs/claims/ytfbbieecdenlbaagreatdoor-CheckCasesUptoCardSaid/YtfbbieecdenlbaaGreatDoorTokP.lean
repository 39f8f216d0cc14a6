/-
  token, plainly: runs of letters, where a run is cut, words.
  trie, plainly: nodes, chains of children, a child sought or made, a word put, a word asked for.
-/
import Derived.Test.YtfbbieecdenlbaaGreatDoorFoldP
namespace Go.Proofs.YtfbbieecdenlbaaGreatDoor
open Go.RowKit

/-- Is there a letter at a place? -/
def letAt (l : List Int) (i : Nat) : Bool := decide (i < l.length) && letterU (nth l i)
/-- Does a run go on behind a place? -/
def goOn (l : List Int) (i : Nat) : Bool := letAt l (i + 1) || (decide (i + 1 < l.length) && (nth l (i + 1) == 39 && letAt l (i + 2)))
def runEndN (l : List Int) : Nat → Nat → Nat
  | 0, i => i
  | d + 1, i => if goOn l i then runEndN l d (i + 1) else i
def runEnd (l : List Int) (i : Nat) : Nat := runEndN l (l.length - i) i

theorem goOn_lt {l : List Int} {i : Nat} (h : goOn l i = true) : i + 1 < l.length := by
  unfold goOn letAt at h
  rcases Bool.or_eq_true_iff.1 h with h | h
  · exact of_decide_eq_true (Bool.and_eq_true_iff.1 h).1
  · exact of_decide_eq_true (Bool.and_eq_true_iff.1 h).1
theorem runEnd_yes {l : List Int} {i : Nat} (h : goOn l i = true) : runEnd l i = runEnd l (i + 1) := by
  have := goOn_lt h
  unfold runEnd
  rw [show l.length - i = (l.length - (i + 1)) + 1 by omega, runEndN, if_pos h]
theorem runEnd_no {l : List Int} {i : Nat} (h : goOn l i = false) : runEnd l i = i := by
  unfold runEnd
  cases l.length - i with
  | zero => rfl
  | succ d => rw [runEndN, h]; simp
theorem runEndN_bound (l : List Int) : ∀ d i, i ≤ runEndN l d i ∧ (i < l.length → runEndN l d i < l.length) := by
  intro d
  induction d with
  | zero => intro i; exact ⟨Nat.le_refl _, id⟩
  | succ d ih =>
    intro i
    rw [runEndN]
    by_cases h : goOn l i = true
    · rw [if_pos h]
      have := goOn_lt h
      have := ih (i + 1)
      exact ⟨by omega, fun _ => this.2 (by omega)⟩
    · rw [if_neg h]; exact ⟨Nat.le_refl _, id⟩
theorem runEnd_le (l : List Int) (i : Nat) : i ≤ runEnd l i := (runEndN_bound l _ i).1
theorem runEnd_lt (l : List Int) (i : Nat) (h : i < l.length) : runEnd l i < l.length := (runEndN_bound l _ i).2 h

def runsN (l : List Int) : Nat → Nat → List (Nat × Nat)
  | 0, _ => []
  | d + 1, i => if i < l.length then (if letAt l i then (i, runEnd l i + 1) :: runsN l d (runEnd l i + 1) else runsN l d (i + 1)) else []
def runsT (l : List Int) (i : Nat) : List (Nat × Nat) := runsN l (l.length - i) i
theorem runsN_fuel (l : List Int) : ∀ d k, l.length ≤ k + d → ∀ e, l.length ≤ k + e → runsN l d k = runsN l e k := by
  intro d
  induction d with
  | zero =>
    intro k h e he
    cases e with
    | zero => rfl
    | succ e => rw [runsN, runsN, if_neg (by omega)]
  | succ d ih =>
    intro k h e he
    cases e with
    | zero => rw [runsN, runsN, if_neg (by omega)]
    | succ e =>
      rw [runsN, runsN]
      have := runEnd_le l k
      rw [ih (runEnd l k + 1) (by omega) e (by omega), ih (k + 1) (by omega) e (by omega)]
theorem runsT_end (l : List Int) (i : Nat) (h : l.length ≤ i) : runsT l i = [] := by
  unfold runsT
  rw [show l.length - i = 0 by omega]
  rfl
theorem runsT_no {l : List Int} {i : Nat} (hi : i < l.length) (h : letAt l i = false) : runsT l i = runsT l (i + 1) := by
  unfold runsT
  rw [show l.length - i = (l.length - (i + 1)) + 1 by omega, runsN, if_pos hi, h]
  simp
theorem runsT_yes {l : List Int} {i : Nat} (hi : i < l.length) (h : letAt l i = true) : runsT l i = (i, runEnd l i + 1) :: runsT l (runEnd l i + 1) := by
  have := runEnd_le l i
  unfold runsT
  rw [show l.length - i = (l.length - (i + 1)) + 1 by omega, runsN, if_pos hi, if_pos h, runsN_fuel l (l.length - (i + 1)) (runEnd l i + 1) (by omega) (l.length - (runEnd l i + 1)) (by omega)]
theorem runsN_range (l : List Int) : ∀ d i, ∀ p ∈ runsN l d i, p.1 < p.2 ∧ p.2 ≤ l.length := by
  intro d
  induction d with
  | zero => intro i p h; simp [runsN] at h
  | succ d ih =>
    intro i p h
    rw [runsN] at h
    split at h
    · rename_i hi
      have h1 := runEnd_le l i
      have h2 := runEnd_lt l i hi
      split at h
      · rcases List.mem_cons.1 h with rfl | h
        · exact ⟨by show i < runEnd l i + 1; omega, by show runEnd l i + 1 ≤ _; omega⟩
        · exact ih _ p h
      · exact ih _ p h
    · simp at h
theorem runsN_len (l : List Int) : ∀ d i, (runsN l d i).length ≤ d := by
  intro d
  induction d with
  | zero => intro i; simp [runsN]
  | succ d ih =>
    intro i
    rw [runsN]
    split
    · split
      · have := ih (runEnd l i + 1); simp; omega
      · have := ih (i + 1); omega
    · simp

/-- Does a new part begin at a sign of a run? -/
def partsB (l : List Int) (frm to i : Nat) : Bool := !(i == frm) && (greatU (nth l i) && (smallU (nth l (i - 1)) || (greatU (nth l (i - 1)) && (decide (i + 1 < to) && smallU (nth l (i + 1))))))
def splitN (l : List Int) (frm to : Nat) : Nat → Nat → Nat → List (Nat × Nat)
  | 0, bg, _ => if bg < to then [(bg, to)] else []
  | d + 1, bg, i => if partsB l frm to i then (bg, i) :: splitN l frm to d i (i + 1) else splitN l frm to d bg (i + 1)
def splitT (l : List Int) (frm to bg i : Nat) : List (Nat × Nat) := splitN l frm to (to - i) bg i
theorem splitT_end (l : List Int) (frm to bg i : Nat) (h : to ≤ i) : splitT l frm to bg i = if bg < to then [(bg, to)] else [] := by
  unfold splitT
  rw [show to - i = 0 by omega]
  rfl
theorem splitT_step (l : List Int) (frm to bg i : Nat) (h : i < to) : splitT l frm to bg i = if partsB l frm to i then (bg, i) :: splitT l frm to i (i + 1) else splitT l frm to bg (i + 1) := by
  unfold splitT
  rw [show to - i = (to - (i + 1)) + 1 by omega, splitN]
theorem splitN_range (l : List Int) (frm to : Nat) : ∀ d bg i, bg ≤ i → (bg < i ∨ partsB l frm to i = false) → i + d = to → ∀ p ∈ splitN l frm to d bg i, bg ≤ p.1 ∧ p.1 < p.2 ∧ p.2 ≤ to := by
  intro d
  induction d with
  | zero =>
    intro bg i hb _ hd p h
    rw [splitN] at h
    split at h
    · simp at h; subst h; exact ⟨Nat.le_refl _, by assumption, Nat.le_refl _⟩
    · simp at h
  | succ d ih =>
    intro bg i hb hs hd p h
    rw [splitN] at h
    by_cases hp : partsB l frm to i = true
    · rw [if_pos hp] at h
      rcases hs with hs | hs
      · rcases List.mem_cons.1 h with rfl | h
        · exact ⟨Nat.le_refl _, hs, by show i ≤ to; omega⟩
        · have := ih i (i + 1) (by omega) (Or.inl (by omega)) (by omega) p h
          exact ⟨by omega, this.2⟩
      · rw [hs] at hp; cases hp
    · rw [if_neg hp] at h
      exact ih bg (i + 1) (by omega) (Or.inl (by omega)) (by omega) p h
theorem splitT_range (l : List Int) (frm to : Nat) (h : frm ≤ to) : ∀ p ∈ splitT l frm to frm frm, frm ≤ p.1 ∧ p.1 < p.2 ∧ p.2 ≤ to :=
  splitN_range l frm to (to - frm) frm frm (Nat.le_refl _) (Or.inr (by unfold partsB; simp)) (by omega)
theorem splitN_len (l : List Int) (frm to : Nat) : ∀ d bg i, (splitN l frm to d bg i).length ≤ d + 1 := by
  intro d
  induction d with
  | zero => intro bg i; rw [splitN]; split <;> simp
  | succ d ih =>
    intro bg i
    rw [splitN]
    split
    · have := ih i (i + 1); simp; omega
    · have := ih bg (i + 1); omega
theorem splitT_len (l : List Int) (frm to : Nat) : (splitT l frm to frm frm).length ≤ to - frm + 1 := splitN_len l frm to _ _ _

/-- A word: its text, where it stands, how many bytes, whether it stands literally. -/
structure WordR where
  text : List UInt8
  at' : Int
  len : Int
  lit : Bool

def unAt (L : List (Int × Nat × Nat)) (i : Nat) : Int × Nat × Nat := L.getD i (0, 0, 0)
def runesL (L : List (Int × Nat × Nat)) : List Int := L.map (·.1)
/-- From where, up to where do signs stand? -/
def fromL (L : List (Int × Nat × Nat)) : Int := (unAt L 0).2.1
def toL (L : List (Int × Nat × Nat)) : Int := (unAt L (L.length - 1)).2.1 + (unAt L (L.length - 1)).2.2
def litB (b : List UInt8) (L : List (Int × Nat × Nat)) : Bool :=
  decide (fromL L ≤ toL L) && (decide (toL L ≤ b.length) && decide ((b.drop (fromL L).toNat).take (toL L - fromL L).toNat = textU (runesL L)))
def partL (L : List (Int × Nat × Nat)) (p : Nat × Nat) : List (Int × Nat × Nat) := (L.drop p.1).take (p.2 - p.1)
def wordL (b : List UInt8) (L : List (Int × Nat × Nat)) : WordR := ⟨textU (runesL L), fromL L, toL L - fromL L, litB b L⟩
def wordsRun (b : List UInt8) (L : List (Int × Nat × Nat)) (least most : Nat) (ps : List (Nat × Nat)) : List WordR :=
  (ps.filter fun p => decide (least ≤ p.2 - p.1) && decide (p.2 - p.1 ≤ most)).map fun p => wordL b (partL L p)
def wordsT (b : List UInt8) (L : List (Int × Nat × Nat)) (least most : Nat) (rs : List (Nat × Nat)) : List WordR :=
  rs.flatMap fun r => wordsRun b L least most (splitT (runesL L) r.1 r.2 r.1 r.1)
def wordCells (l : List WordR) : List Value := l.flatMap fun x => [.string ⟨x.text.toArray⟩, .int .i64 x.at', .int .i64 x.len, .bool x.lit]
theorem wordCells_append (a b : List WordR) : wordCells (a ++ b) = wordCells a ++ wordCells b := by simp [wordCells]
theorem wordCells_len (l : List WordR) : (wordCells l).length = l.length * 4 := by
  induction l with
  | nil => rfl
  | cons a l ih => simp [wordCells] at ih ⊢; omega
theorem wordCells_at (l : List WordR) (k : Nat) (h : k < l.length) : (wordCells l)[k * 4]? = some (.string ⟨l[k].text.toArray⟩) ∧ (wordCells l)[k * 4 + 1]? = some (.int .i64 l[k].at') ∧ (wordCells l)[k * 4 + 1 + 1]? = some (.int .i64 l[k].len) ∧ (wordCells l)[k * 4 + 1 + 1 + 1]? = some (.bool l[k].lit) := by
  induction l generalizing k with
  | nil => simp at h
  | cons a l ih =>
    cases k with
    | zero => exact ⟨rfl, rfl, rfl, rfl⟩
    | succ k =>
      have := ih k (by simpa using h)
      rw [show (k + 1) * 4 = k * 4 + 1 + 1 + 1 + 1 by omega]
      simpa [wordCells] using this
end Go.Proofs.YtfbbieecdenlbaaGreatDoor
namespace Go.Proofs.YtfbbieecdenlbaaGreatDoor
open Go.RowKit

/-- A node: its rune, whether a word ends there, its first child, the one behind it. -/
structure Nd where
  r : Int
  fin : Bool
  kid : Nat
  other : Nat
def nd0 : Nd := ⟨0, false, 0, 0⟩
def ndAt (N : List Nd) (k : Nat) : Nd := N.getD k nd0
def nodeCells (N : List Nd) : List Value := N.flatMap fun x => [.int .i32 x.r, .bool x.fin, .int .i64 (x.kid : Int), .int .i64 (x.other : Int)]
theorem nodeCells_append (a b : List Nd) : nodeCells (a ++ b) = nodeCells a ++ nodeCells b := by simp [nodeCells]
theorem nodeCells_len (l : List Nd) : (nodeCells l).length = l.length * 4 := by
  induction l with
  | nil => rfl
  | cons a l ih => simp [nodeCells] at ih ⊢; omega
theorem nodeCells_at (l : List Nd) (k : Nat) (h : k < l.length) : (nodeCells l)[k * 4]? = some (.int .i32 (ndAt l k).r) ∧ (nodeCells l)[k * 4 + 1]? = some (.bool (ndAt l k).fin) ∧ (nodeCells l)[k * 4 + 1 + 1]? = some (.int .i64 ((ndAt l k).kid : Int)) ∧ (nodeCells l)[k * 4 + 1 + 1 + 1]? = some (.int .i64 ((ndAt l k).other : Int)) := by
  induction l generalizing k with
  | nil => simp at h
  | cons a l ih =>
    cases k with
    | zero => exact ⟨rfl, rfl, rfl, rfl⟩
    | succ k =>
      have := ih k (by simpa using h)
      rw [show (k + 1) * 4 = k * 4 + 1 + 1 + 1 + 1 by omega]
      simpa [nodeCells, ndAt] using this
def setFin (N : List Nd) (k : Nat) : List Nd := N.set k ⟨(ndAt N k).r, true, (ndAt N k).kid, (ndAt N k).other⟩
def setKid (N : List Nd) (k n : Nat) : List Nd := N.set k ⟨(ndAt N k).r, (ndAt N k).fin, n, (ndAt N k).other⟩
def setOther (N : List Nd) (k n : Nat) : List Nd := N.set k ⟨(ndAt N k).r, (ndAt N k).fin, (ndAt N k).kid, n⟩
theorem nodeCells_set (N : List Nd) (k : Nat) (h : k < N.length) (x : Nd) : nodeCells (N.set k x) = ((((nodeCells N).set (k * 4) (.int .i32 x.r)).set (k * 4 + 1) (.bool x.fin)).set (k * 4 + 1 + 1) (.int .i64 (x.kid : Int))).set (k * 4 + 1 + 1 + 1) (.int .i64 (x.other : Int)) := by
  induction N generalizing k with
  | nil => simp at h
  | cons a l ih =>
    cases k with
    | zero => rfl
    | succ k =>
      rw [show (k + 1) * 4 = k * 4 + 1 + 1 + 1 + 1 by omega]
      have := ih k (by simpa using h)
      simp only [nodeCells, List.flatMap_cons, List.set_cons_succ, List.cons_append, List.nil_append] at this ⊢
      rw [this]
theorem set_same {l : List Value} {k : Nat} {v : Value} (h : l[k]? = some v) : l.set k v = l := by
  obtain ⟨hk, e⟩ := List.getElem?_eq_some_iff.1 h
  rw [← e]
  exact List.set_getElem_self hk
theorem nodeCells_fin (N : List Nd) (k : Nat) (h : k < N.length) : nodeCells (setFin N k) = (nodeCells N).set (k * 4 + 1) (.bool true) := by
  obtain ⟨h0, h1, h2, h3⟩ := nodeCells_at N k h
  unfold setFin
  rw [nodeCells_set N k h, set_same h0]
  rw [set_same (k := k * 4 + 1 + 1) (by rw [List.getElem?_set_ne (by omega)]; exact h2), set_same (k := k * 4 + 1 + 1 + 1) (by rw [List.getElem?_set_ne (by omega)]; exact h3)]
theorem nodeCells_kid (N : List Nd) (k n : Nat) (h : k < N.length) : nodeCells (setKid N k n) = (nodeCells N).set (k * 4 + 1 + 1) (.int .i64 (n : Int)) := by
  obtain ⟨h0, h1, h2, h3⟩ := nodeCells_at N k h
  unfold setKid
  rw [nodeCells_set N k h, set_same h0, set_same h1]
  rw [set_same (k := k * 4 + 1 + 1 + 1) (by rw [List.getElem?_set_ne (by omega)]; exact h3)]
theorem nodeCells_other (N : List Nd) (k n : Nat) (h : k < N.length) : nodeCells (setOther N k n) = (nodeCells N).set (k * 4 + 1 + 1 + 1) (.int .i64 (n : Int)) := by
  obtain ⟨h0, h1, h2, h3⟩ := nodeCells_at N k h
  unfold setOther
  rw [nodeCells_set N k h, set_same h0, set_same h1, set_same h2]

/-- Does a chain of children end, within so many steps? -/
def okSib (N : List Nd) : Nat → Nat → Bool
  | 0, k => k == 0
  | d + 1, k => k == 0 || (decide (k < N.length) && okSib N d (ndAt N k).other)
def sibs (N : List Nd) : Nat → Nat → List Nat
  | 0, _ => []
  | d + 1, k => if k = 0 then [] else k :: sibs N d (ndAt N k).other
def chain (N : List Nd) (k : Nat) : List Nat := sibs N N.length k
def okk (N : List Nd) (k : Nat) : Prop := okSib N N.length k = true
theorem okSib_succ (N : List Nd) : ∀ d k, okSib N d k = true → okSib N (d + 1) k = true := by
  intro d
  induction d with
  | zero => intro k h; simp [okSib] at h ⊢; exact Or.inl h
  | succ d ih =>
    intro k h
    rw [okSib] at h ⊢
    rcases Bool.or_eq_true_iff.1 h with h | h
    · simp [h]
    · obtain ⟨h1, h2⟩ := Bool.and_eq_true_iff.1 h
      simp [h1, ih _ h2]
theorem sibs_succ (N : List Nd) : ∀ d k, okSib N d k = true → sibs N (d + 1) k = sibs N d k := by
  intro d
  induction d with
  | zero => intro k h; simp [okSib] at h; subst h; simp [sibs]
  | succ d ih =>
    intro k h
    show (if k = 0 then [] else k :: sibs N (d + 1) (ndAt N k).other) = (if k = 0 then [] else k :: sibs N d (ndAt N k).other)
    split
    · rfl
    · rename_i hk
      rw [okSib] at h
      rcases Bool.or_eq_true_iff.1 h with h | h
      · simp at h; exact absurd h hk
      · rw [ih _ (Bool.and_eq_true_iff.1 h).2]
theorem chain_step {N : List Nd} {k : Nat} (h : okk N k) (hk : 0 < k) : k < N.length ∧ okk N (ndAt N k).other ∧ chain N k = k :: chain N (ndAt N k).other := by
  unfold okk chain at *
  cases hn : N.length with
  | zero => rw [hn] at h; simp [okSib] at h; omega
  | succ n =>
    rw [hn] at h
    rw [okSib] at h
    rcases Bool.or_eq_true_iff.1 h with h | h
    · simp at h; omega
    · obtain ⟨h1, h2⟩ := Bool.and_eq_true_iff.1 h
      refine ⟨by rw [← hn]; exact of_decide_eq_true h1, okSib_succ N _ _ h2, ?_⟩
      rw [sibs, if_neg (by omega), sibs_succ N _ _ h2]
theorem chain_zero (N : List Nd) : chain N 0 = [] := by
  unfold chain
  cases N.length with
  | zero => rfl
  | succ n => rfl

/-- Where a rune's child stands, or would stand: the one ahead, the one there. -/
def seekL (N : List Nd) (r : Int) : Nat → List Nat → Nat × Nat
  | b, [] => (b, 0)
  | b, k :: ks => if (ndAt N k).r < r then seekL N r k ks else (b, k)
def seekT (N : List Nd) (at' : Nat) (r : Int) : Nat × Nat := seekL N r 0 (chain N (ndAt N at').kid)
def childT (N : List Nd) (at' : Nat) (r : Int) : List Nd × Nat :=
  if 0 < (seekT N at' r).2 ∧ (ndAt N (seekT N at' r).2).r = r then (N, (seekT N at' r).2)
  else if 0 < (seekT N at' r).1 then (setOther (N ++ [⟨r, false, 0, (seekT N at' r).2⟩]) (seekT N at' r).1 N.length, N.length)
  else (setKid (N ++ [⟨r, false, 0, (seekT N at' r).2⟩]) at' N.length, N.length)
theorem childT_len (N : List Nd) (at' : Nat) (r : Int) : N.length ≤ (childT N at' r).1.length ∧ (childT N at' r).1.length ≤ N.length + 1 := by
  unfold childT setOther setKid
  split
  · exact ⟨Nat.le_refl _, Nat.le_succ _⟩
  · split <;> simp
/-- May a word be put from a node on? -/
def okPut (N : List Nd) (at' : Nat) : List Int → Bool
  | [] => decide (at' < N.length)
  | r :: rs => decide (at' < N.length) && (okSib N N.length (ndAt N at').kid && okPut (childT N at' r).1 (childT N at' r).2 rs)
def putW (N : List Nd) (at' : Nat) : List Int → List Nd × Nat
  | [] => (N, at')
  | r :: rs => putW (childT N at' r).1 (childT N at' r).2 rs
def putT (N : List Nd) (l : List Int) : List Nd := setFin (putW N 0 l).1 (putW N 0 l).2
/-- Is it new? -/
def putNew (N : List Nd) (l : List Int) : Nat := if (ndAt (putW N 0 l).1 (putW N 0 l).2).fin then 0 else 1

def pickI (ks : List Nat) (N : List Nd) (r : Int) (a : Int) : Int := ks.foldl (fun a k => if (ndAt N k).r == r then (k : Int) else a) a
def hasW (N : List Nd) (at' : Nat) : List Int → Bool
  | [] => (ndAt N at').fin
  | r :: rs => if pickI (chain N (ndAt N at').kid) N r (-1) < 0 then false else hasW N (pickI (chain N (ndAt N at').kid) N r (-1)).toNat rs
/-- Nodes whose chains end. -/
def wfN (N : List Nd) : Prop := 0 < N.length ∧ ∀ k, k < N.length → okk N (ndAt N k).kid
def wfNB (N : List Nd) : Bool := decide (0 < N.length) && (List.range N.length).all fun k => okSib N N.length (ndAt N k).kid
theorem wfN_of {N : List Nd} (h : wfNB N = true) : wfN N := by
  obtain ⟨h1, h2⟩ := Bool.and_eq_true_iff.1 h
  exact ⟨of_decide_eq_true h1, fun k hk => List.all_eq_true.1 h2 k (by simpa using hk)⟩
theorem chain_mem {N : List Nd} : ∀ (n k : Nat), okk N k → (chain N k).length ≤ n → ∀ j ∈ chain N k, j < N.length := by
  intro n
  induction n with
  | zero => intro k _ hl j hj; rw [List.length_eq_zero_iff.1 (Nat.le_zero.1 hl)] at hj; simp at hj
  | succ n ih =>
    intro k hk hl j hj
    by_cases h0 : k = 0
    · subst h0; rw [chain_zero] at hj; simp at hj
    · obtain ⟨h1, h2, h3⟩ := chain_step hk (by omega)
      rw [h3] at hj hl
      rcases List.mem_cons.1 hj with rfl | hj
      · exact h1
      · exact ih _ h2 (by simpa using hl) j hj
theorem pickI_range {N : List Nd} (r : Int) : ∀ (ks : List Nat) (a : Int), (∀ j ∈ ks, j < N.length) → a < N.length → pickI ks N r a < N.length := by
  intro ks
  induction ks with
  | nil => intro a _ h; exact h
  | cons k ks ih =>
    intro a hk ha
    unfold pickI
    rw [List.foldl_cons]
    refine ih _ (fun j hj => hk j (List.mem_cons_of_mem _ hj)) ?_
    split
    · have := hk k (by simp); omega
    · exact ha
end Go.Proofs.YtfbbieecdenlbaaGreatDoor
