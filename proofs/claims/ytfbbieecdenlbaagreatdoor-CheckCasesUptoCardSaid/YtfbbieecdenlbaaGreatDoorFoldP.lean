/-
  A rune's bytes, plainly: case by case; slices of runes.
  fold, plainly: a word's case, a text in a case.
-/
import Derived.Test.YtfbbieecdenlbaaGreatDoorUtfR
namespace Go.Proofs.YtfbbieecdenlbaaGreatDoor
open Go.RowKit

def by8 (y : Int) : UInt8 := y.toNat.toUInt8
theorem by8_toNat (y : Int) (h0 : 0 ≤ y) (h1 : y ≤ 255) : ((by8 y).toNat : Int) = y := by
  unfold by8
  simp only [UInt8.toNat_ofNat', Nat.reducePow]
  omega
theorem row1 (y : Int) (h0 : 0 ≤ y) (h1 : y ≤ 255) : byteRow [by8 y] = [.int .u8 y] := by
  simp [byteRow, by8_toNat y h0 h1]
theorem row2 (x y : Int) (h0 : 0 ≤ x) (h1 : x ≤ 255) (h2 : 0 ≤ y) (h3 : y ≤ 255) : byteRow [by8 x, by8 y] = [.int .u8 x, .int .u8 y] := by
  simp [byteRow, by8_toNat x h0 h1, by8_toNat y h2 h3]
theorem row3 (x y z : Int) (h0 : 0 ≤ x) (h1 : x ≤ 255) (h2 : 0 ≤ y) (h3 : y ≤ 255) (h4 : 0 ≤ z) (h5 : z ≤ 255) : byteRow [by8 x, by8 y, by8 z] = [.int .u8 x, .int .u8 y, .int .u8 z] := by
  simp [byteRow, by8_toNat x h0 h1, by8_toNat y h2 h3, by8_toNat z h4 h5]
theorem row4 (x y z u : Int) (h0 : 0 ≤ x) (h1 : x ≤ 255) (h2 : 0 ≤ y) (h3 : y ≤ 255) (h4 : 0 ≤ z) (h5 : z ≤ 255) (h6 : 0 ≤ u) (h7 : u ≤ 255) : byteRow [by8 x, by8 y, by8 z, by8 u] = [.int .u8 x, .int .u8 y, .int .u8 z, .int .u8 u] := by
  simp [byteRow, by8_toNat x h0 h1, by8_toNat y h2 h3, by8_toNat z h4 h5, by8_toNat u h6 h7]
theorem byteRow_append (a b : List UInt8) : byteRow (a ++ b) = byteRow a ++ byteRow b := by simp [byteRow]

/-- Not a rune · one, two, three, four bytes. -/
def noU (r : Int) : Prop := r < 0 ∨ 1114111 < r ∨ (55296 ≤ r ∧ r < 57344)
theorem enc_no (r : Int) (h : noU r) : okU r = false ∧ encU r = [] := by
  have : okU r = false := by
    unfold noU at h
    unfold okU
    rcases h with h | h | h
    · simp; omega
    · simp; omega
    · simp; omega
  exact ⟨this, by simp [encU, this]⟩
theorem ok_of (r : Int) (h : ¬ noU r) : okU r = true := by
  unfold noU at h
  unfold okU
  simp
  omega
theorem enc_1 (r : Int) (h0 : 0 ≤ r) (h1 : r ≤ 127) : okU r = true ∧ encU r = [by8 r] := by
  have h := ok_of r (by unfold noU; omega)
  refine ⟨h, ?_⟩
  simp only [encU, h, if_true, Lib.encodeRune, Lib.encodeRuneZ]
  rw [if_pos (by omega)]
  rfl
theorem enc_2 (r : Int) (h0 : 128 ≤ r) (h1 : r ≤ 2047) : okU r = true ∧ encU r = [by8 (192 + r / 64), by8 (128 + r % 64)] := by
  have h := ok_of r (by unfold noU; omega)
  refine ⟨h, ?_⟩
  simp only [encU, h, if_true, Lib.encodeRune, Lib.encodeRuneZ]
  rw [if_neg (by omega), if_pos (by omega)]
  rfl
theorem enc_3 (r : Int) (h0 : 2048 ≤ r) (h1 : r ≤ 65535) (h2 : r < 55296 ∨ 57344 ≤ r) : okU r = true ∧ encU r = [by8 (224 + r / 4096), by8 (128 + r / 64 % 64), by8 (128 + r % 64)] := by
  have h := ok_of r (by unfold noU; omega)
  refine ⟨h, ?_⟩
  simp only [encU, h, if_true, Lib.encodeRune, Lib.encodeRuneZ]
  rw [if_neg (by omega), if_neg (by omega), if_pos (by omega)]
  rfl
theorem enc_4 (r : Int) (h0 : 65536 ≤ r) (h1 : r ≤ 1114111) : okU r = true ∧ encU r = [by8 (240 + r / 262144), by8 (128 + r / 4096 % 64), by8 (128 + r / 64 % 64), by8 (128 + r % 64)] := by
  have h := ok_of r (by unfold noU; omega)
  refine ⟨h, ?_⟩
  simp only [encU, h, if_true, Lib.encodeRune, Lib.encodeRuneZ]
  rw [if_neg (by omega), if_neg (by omega), if_neg (by omega), if_pos (by omega)]
  rfl
theorem enc_len (r : Int) : (encU r).length ≤ 4 := by
  by_cases h : noU r
  · rw [(enc_no r h).2]; simp
  · unfold noU at h
    by_cases h1 : r ≤ 127
    · rw [(enc_1 r (by omega) h1).2]; simp
    · by_cases h2 : r ≤ 2047
      · rw [(enc_2 r (by omega) h2).2]; simp
      · by_cases h3 : r ≤ 65535
        · rw [(enc_3 r (by omega) h3 (by omega)).2]; simp
        · rw [(enc_4 r (by omega) (by omega)).2]; simp
theorem textU_len (l : List Int) : (textU l).length ≤ 4 * l.length := by
  induction l with
  | nil => simp [textU]
  | cons a l ih =>
    have := enc_len a
    simp only [textU, List.flatMap_cons, List.length_append, List.length_cons] at ih ⊢
    omega
theorem textU_take (l : List Int) (k : Nat) (h : k < l.length) : textU (l.take (k + 1)) = textU (l.take k) ++ encU l[k] := by
  unfold textU
  rw [List.take_succ_eq_append_getElem h, List.flatMap_append]
  simp

/-- A slice of numbers of a kind that reads as l. -/
def IntsV (q : IntKind) (w : World) (v : Value) (l : List Int) : Prop :=
  ∃ p c, v = .slice p l.length c ∧ l.length ≤ c ∧ c ≤ maxLen ∧ (0 < l.length → ∃ b o, p = some ⟨b, o, none⟩ ∧ ∀ k, k < l.length → w.cell? ⟨b, o + k, none⟩ = some (.int q (nth l k)))
theorem IntsV.keep {q : IntKind} {w w' : World} {v : Value} {l : List Int} (h : IntsV q w v l) (hc : ∀ p x, w.cell? p = some x → w'.cell? p = some x) : IntsV q w' v l := by
  obtain ⟨p, c, h1, h2, h3, h4⟩ := h
  refine ⟨p, c, h1, h2, h3, fun hp => ?_⟩
  obtain ⟨b, o, e, hk⟩ := h4 hp
  exact ⟨b, o, e, fun k hk' => hc _ _ (hk k hk')⟩
theorem IntsV.of_row {q : IntKind} {w : World} {base : Nat} {e : TypeId} {v : Value} {n : Nat} {l : List Int} (h : w.ownsRow base e 1 v n (l.map (Value.int q))) : IntsV q w v l := by
  have hl := h.1
  rw [List.length_map, Nat.mul_one] at hl
  subst hl
  rcases h.2 with ⟨rfl, h0⟩ | ⟨g, cap, cur, rfl, hg, hh, h1, h2, h3, h4⟩
  · exact ⟨none, 0, by rw [h0], by omega, by unfold maxLen; omega, fun h => by omega⟩
  · refine ⟨_, cap, rfl, h1, h2, fun hp => ⟨g, 0, rfl, fun k hk => ?_⟩⟩
    rw [Nat.zero_add, h.cellAt k (by omega), List.getElem?_map, List.getElem?_eq_getElem hk, nth_lt hk]
    rfl
end Go.Proofs.YtfbbieecdenlbaaGreatDoor
namespace Go.Proofs.YtfbbieecdenlbaaGreatDoor
open Go.RowKit

def greatsU (l : List Int) : Nat := l.countP greatU
def smallsU (l : List Int) : Nat := l.countP fun r => !greatU r && smallU r
/-- 1: no great letter; 2: the first alone; 3: great ones alone; 0: else. -/
def ofR (l : List Int) : Int :=
  if greatsU l = 0 then 1 else if 1 < greatsU l ∧ smallsU l = 0 then 3 else if greatsU l = 1 ∧ greatU (nth l 0) then 2 else 0
def ofU (s : List UInt8) : Int := ofR (runesU s)
/-- The rune at a place, in a case. -/
def asI (c : Int) (i : Nat) (r : Int) : Int := if c == 3 then upU r else if c == 2 then (if i == 0 then upU r else downU r) else if c == 1 then downU r else r
def asR (c : Int) (l : List Int) : List Int := l.mapIdx fun i r => asI c i r
def asU (c : Int) (s : List UInt8) : List UInt8 := textU (asR c (runesU s))
/-- The first n runes in a case, the others as they are. -/
def asN (c : Int) (n : Nat) (l : List Int) : List Int := l.mapIdx fun i r => if i < n then asI c i r else r
theorem asN_length (c : Int) (n : Nat) (l : List Int) : (asN c n l).length = l.length := by simp [asN]
theorem asN_zero (c : Int) (l : List Int) : asN c 0 l = l := by
  apply List.ext_getElem (by simp [asN])
  intro i h1 h2
  simp [asN]
theorem asN_all (c : Int) (l : List Int) : asN c l.length l = asR c l := by
  apply List.ext_getElem (by simp [asN, asR])
  intro i h1 h2
  have : i < l.length := by simpa [asN] using h1
  simp [asN, asR, this]
theorem asN_nth (c : Int) (n : Nat) (l : List Int) (i : Nat) (h : i < l.length) (hn : n ≤ i) : nth (asN c n l) i = nth l i := by
  rw [nth_lt (by rw [asN_length]; exact h), nth_lt h]
  simp [asN]
  omega
theorem asN_succ (c : Int) (n : Nat) (l : List Int) (h : n < l.length) : asN c (n + 1) l = (asN c n l).set n (asI c n (nth l n)) := by
  apply List.ext_getElem (by simp [asN])
  intro i h1 h2
  have hi : i < l.length := by simpa [asN] using h1
  rw [List.getElem_set]
  by_cases e : n = i
  · subst e
    simp [asN, nth_lt h]
  · rw [if_neg e]
    simp only [asN, List.getElem_mapIdx]
    by_cases h' : i < n
    · rw [if_pos (by omega), if_pos h']
    · rw [if_neg (by omega), if_neg h']
theorem downU_range (r : Int) (h : -1 ≤ r ∧ r ≤ 1114111) : -1 ≤ downU r ∧ downU r ≤ 1114111 := by
  unfold downU
  split
  · rename_i hg
    unfold greatU at hg
    simp at hg
    omega
  · exact h
theorem upU_range (r : Int) (h : -1 ≤ r ∧ r ≤ 1114111) : -1 ≤ upU r ∧ upU r ≤ 1114111 := by
  unfold upU
  split
  · rename_i hg
    unfold smallU at hg
    simp at hg
    omega
  · exact h
end Go.Proofs.YtfbbieecdenlbaaGreatDoor
