/-
  Signs of a text, plainly: utf and fold.
-/
import Derived.Test.YtfbbieecdenlbaaGreatDoorBase
import Derived.Lib.SpaceUEq
import Derived.Lib.MapLaws
namespace Go.Proofs.YtfbbieecdenlbaaGreatDoor
open Go.RowKit

/-- The sign with which bytes begin, and how many it has. -/
def nextU (s : List UInt8) : Int × Nat := if s = [] then (-1, 0) else if Lib.decodeL s = (65533, 1) then (-1, 1) else ((Lib.decodeL s).1, (Lib.decodeL s).2)

theorem nextU_pos (s : List UInt8) (h : s ≠ []) : 1 ≤ (nextU s).2 ∧ (nextU s).2 ≤ s.length ∧ (nextU s).2 ≤ 4 := by
  have h1 := Lib.decodeL_le s h
  have h0 : 0 < s.length := List.length_pos_iff.2 h
  have h2 : 1 ≤ (Lib.decodeL s).2 := by rw [Lib.decodeL_N]; exact Lib.decodeN_ge1 _ _ _ _ _
  have h3 : (Lib.decodeL s).2 ≤ 4 := by rw [Lib.decodeL_N]; exact (Lib.decodeN_conts _ _ _ _ _).2.2.2
  unfold nextU
  rw [if_neg h]
  split
  · simp only; omega
  · simp only; omega

/-- The signs from a place on: rune, place, how many bytes. -/
def unitsN (s : List UInt8) : Nat → Nat → List (Int × Nat × Nat)
  | 0, _ => []
  | d + 1, k => if k < s.length then ((nextU (s.drop k)).1, k, (nextU (s.drop k)).2) :: unitsN s d (k + (nextU (s.drop k)).2) else []
def unitsF (s : List UInt8) (k : Nat) : List (Int × Nat × Nat) := unitsN s (s.length - k) k

theorem drop_ne {s : List UInt8} {k : Nat} (h : k < s.length) : s.drop k ≠ [] := by
  intro e
  have := congrArg List.length e
  simp at this
  omega
theorem unitsN_fuel (s : List UInt8) : ∀ d k, s.length ≤ k + d → ∀ e, s.length ≤ k + e → unitsN s d k = unitsN s e k := by
  intro d
  induction d with
  | zero =>
    intro k h e he
    cases e with
    | zero => rfl
    | succ e => rw [unitsN, unitsN, if_neg (by omega)]
  | succ d ih =>
    intro k h e he
    cases e with
    | zero => rw [unitsN, unitsN, if_neg (by omega)]
    | succ e =>
      rw [unitsN, unitsN]
      split
      · rename_i hk
        have := nextU_pos _ (drop_ne hk)
        rw [ih _ (by omega) e (by omega)]
      · rfl
theorem unitsF_step (s : List UInt8) (k : Nat) (h : k < s.length) : unitsF s k = ((nextU (s.drop k)).1, k, (nextU (s.drop k)).2) :: unitsF s (k + (nextU (s.drop k)).2) := by
  have := nextU_pos _ (drop_ne h)
  unfold unitsF
  rw [show s.length - k = (s.length - k - 1) + 1 by omega, unitsN, if_pos h, unitsN_fuel s (s.length - k - 1) (k + (nextU (s.drop k)).2) (by omega) (s.length - (k + (nextU (s.drop k)).2)) (by omega)]
theorem unitsF_end (s : List UInt8) (k : Nat) (h : s.length ≤ k) : unitsF s k = [] := by
  unfold unitsF
  rw [show s.length - k = 0 by omega]
  rfl
theorem unitsF_len (s : List UInt8) : ∀ d k, s.length ≤ k + d → (unitsF s k).length ≤ d := by
  intro d
  induction d with
  | zero => intro k h; rw [unitsF_end s k (by omega)]; simp
  | succ d ih =>
    intro k h
    by_cases hk : k < s.length
    · have := nextU_pos _ (drop_ne hk)
      rw [unitsF_step s k hk, List.length_cons]
      have := ih (k + (nextU (s.drop k)).2) (by omega)
      omega
    · rw [unitsF_end s k (by omega)]; simp
def runesU (s : List UInt8) : List Int := (unitsF s 0).map (·.1)
theorem runesU_len (s : List UInt8) : (runesU s).length ≤ s.length := by
  unfold runesU
  rw [List.length_map]
  exact unitsF_len s s.length 0 (by omega)

/-- May a number be a rune? -/
def okU (r : Int) : Bool := decide (0 ≤ r) && (decide (r ≤ 1114111) && !(decide (55296 ≤ r) && decide (r < 57344)))
/-- A rune's bytes; none, if it is none. -/
def encU (r : Int) : List UInt8 := if okU r then Lib.encodeRune r else []
def textU (l : List Int) : List UInt8 := l.flatMap encU

def greatU (r : Int) : Bool := (decide (65 ≤ r) && decide (r ≤ 90)) || (decide (192 ≤ r) && (decide (r ≤ 222) && !(r == 215)))
def smallU (r : Int) : Bool := (decide (97 ≤ r) && decide (r ≤ 122)) || (decide (224 ≤ r) && (decide (r ≤ 254) && !(r == 247)))
def letterU (r : Int) : Bool := greatU r || (smallU r || (r == 223 || ((decide (255 ≤ r) && decide (r ≤ 591)) || ((decide (880 ≤ r) && decide (r ≤ 1023)) || (decide (1024 ≤ r) && decide (r ≤ 1327))))))
def downU (r : Int) : Int := if greatU r then r + 32 else r
def upU (r : Int) : Int := if smallU r then r - 32 else r
def foldU (s : List UInt8) : List UInt8 := textU ((runesU s).map downU)

theorem nextU_range (s : List UInt8) : -1 ≤ (nextU s).1 ∧ (nextU s).1 ≤ 1114111 := by
  unfold nextU
  split
  · simp
  · split
    · simp
    · rw [Lib.decodeL_N]
      have k0 := (s.getD 0 0).toNat_lt
      have k1 := (s.getD 1 0).toNat_lt
      have k2 := (s.getD 2 0).toNat_lt
      have k3 := (s.getD 3 0).toNat_lt
      rcases Lib.decodeN_shape s.length (s.getD 0 0).toNat (s.getD 1 0).toNat (s.getD 2 0).toNat (s.getD 3 0).toNat with ⟨c, e⟩ | ⟨c1, c2, c3, cv, e⟩ | ⟨c1, c2, c3, c4, cv, cs, e⟩ | ⟨c1, c2, c3, c4, c5, cv, cw, e⟩ | e <;> rw [e] <;> dsimp only <;> omega
theorem runesU_range (s : List UInt8) : ∀ r ∈ runesU s, -1 ≤ r ∧ r ≤ 1114111 := by
  have h : ∀ d k, ∀ u ∈ unitsN s d k, -1 ≤ u.1 ∧ u.1 ≤ 1114111 := by
    intro d
    induction d with
    | zero => intro k u hu; simp [unitsN] at hu
    | succ d ih =>
      intro k u hu
      rw [unitsN] at hu
      split at hu
      · rcases List.mem_cons.1 hu with rfl | hu
        · exact nextU_range _
        · exact ih _ u hu
      · simp at hu
  intro r hr
  unfold runesU at hr
  obtain ⟨u, hu, rfl⟩ := List.mem_map.1 hr
  exact h _ _ u hu

/-! Next, case by case. -/
def bn (s : List UInt8) (i : Nat) : Nat := (s.getD i 0).toNat
theorem bn_lt (s : List UInt8) (i : Nat) : bn s i < 256 := (s.getD i 0).toNat_lt
theorem bt_bn (s : List UInt8) (i : Nat) : bt s i = (bn s i : Int) := rfl
theorem nx_of (s : List UInt8) (h : s ≠ []) (r w : Nat) (hd : Lib.decodeN s.length (bn s 0) (bn s 1) (bn s 2) (bn s 3) = (r, w)) (hn : ¬ (r = 65533 ∧ w = 1)) : nextU s = ((r : Int), w) := by
  unfold nextU
  rw [if_neg h, Lib.decodeL_N]
  unfold bn at hd
  rw [hd, if_neg]
  intro e
  simp only [Prod.mk.injEq] at e
  exact hn e
theorem nx_no (s : List UInt8) (h : s ≠ []) (hd : Lib.decodeN s.length (bn s 0) (bn s 1) (bn s 2) (bn s 3) = (65533, 1)) : nextU s = (-1, 1) := by
  unfold nextU
  rw [if_neg h, Lib.decodeL_N]
  unfold bn at hd
  rw [hd, if_pos rfl]
theorem nx_ascii (s : List UInt8) (h : s ≠ []) (h0 : bn s 0 < 128) : nextU s = ((bn s 0 : Int), 1) :=
  nx_of s h _ _ (Lib.decodeN_ascii _ _ _ _ _ h0) (by omega)
theorem nx_bad (s : List UInt8) (h : s ≠ []) (h0 : 128 ≤ bn s 0) (h1 : bn s 0 < 194 ∨ 245 ≤ bn s 0) : nextU s = (-1, 1) := by
  refine nx_no s h ?_
  have k0 := bn_lt s 0
  have k1 := bn_lt s 1
  have k2 := bn_lt s 2
  have k3 := bn_lt s 3
  rcases Lib.decodeN_shape s.length (bn s 0) (bn s 1) (bn s 2) (bn s 3) with ⟨c, e⟩ | ⟨c1, c2, c3, cv, e⟩ | ⟨c1, c2, c3, c4, cv, cs, e⟩ | ⟨c1, c2, c3, c4, c5, cv, cw, e⟩ | e
  all_goals first | exact e | (exfalso; omega)
theorem nx_2 (s : List UInt8) (h : s ≠ []) (h0 : 194 ≤ bn s 0 ∧ bn s 0 < 224) (hn : 1 < s.length) (h1 : bn s 1 / 64 = 2) : nextU s = (((bn s 0 % 32 * 64 + bn s 1 % 64 : Nat) : Int), 2) := by
  refine nx_of s h _ _ ?_ (by omega)
  unfold Lib.decodeN
  rw [if_neg (by omega), if_pos (by omega), if_pos (by omega)]
theorem nx_2n (s : List UInt8) (h : s ≠ []) (h0 : 194 ≤ bn s 0 ∧ bn s 0 < 224) (hx : ¬ (1 < s.length ∧ bn s 1 / 64 = 2)) : nextU s = (-1, 1) := by
  refine nx_no s h ?_
  rcases Lib.decodeN_shape s.length (bn s 0) (bn s 1) (bn s 2) (bn s 3) with ⟨c, e⟩ | ⟨c1, c2, c3, cv, e⟩ | ⟨c1, c2, c3, c4, cv, cs, e⟩ | ⟨c1, c2, c3, c4, c5, cv, cw, e⟩ | e
  all_goals first | exact e | (exfalso; omega)
def v3 (s : List UInt8) : Nat := bn s 0 % 16 * 4096 + bn s 1 % 64 * 64 + bn s 2 % 64
def v4 (s : List UInt8) : Nat := bn s 0 % 8 * 262144 + bn s 1 % 64 * 4096 + bn s 2 % 64 * 64 + bn s 3 % 64
theorem nx_3 (s : List UInt8) (h : s ≠ []) (h0 : 224 ≤ bn s 0 ∧ bn s 0 < 240) (hn : 2 < s.length) (h1 : bn s 1 / 64 = 2) (h2 : bn s 2 / 64 = 2) (hv : 2048 ≤ v3 s ∧ (v3 s < 55296 ∨ 57344 ≤ v3 s)) : nextU s = (((v3 s : Nat) : Int), 3) := by
  refine nx_of s h _ _ ?_ (by omega)
  unfold v3 at hv ⊢
  have k1 := bn_lt s 1
  have k2 := bn_lt s 2
  unfold Lib.decodeN
  rw [if_neg (by omega), if_neg (by omega), if_pos (by omega), if_pos (by omega)]
theorem nx_3n (s : List UInt8) (h : s ≠ []) (h0 : 224 ≤ bn s 0 ∧ bn s 0 < 240) (hx : ¬ (2 < s.length ∧ bn s 1 / 64 = 2 ∧ bn s 2 / 64 = 2 ∧ 2048 ≤ v3 s ∧ (v3 s < 55296 ∨ 57344 ≤ v3 s))) : nextU s = (-1, 1) := by
  refine nx_no s h ?_
  unfold v3 at hx
  rcases Lib.decodeN_shape s.length (bn s 0) (bn s 1) (bn s 2) (bn s 3) with ⟨c, e⟩ | ⟨c1, c2, c3, cv, e⟩ | ⟨c1, c2, c3, c4, cv, cs, e⟩ | ⟨c1, c2, c3, c4, c5, cv, cw, e⟩ | e
  all_goals first | exact e | (exfalso; omega)
theorem nx_4 (s : List UInt8) (h : s ≠ []) (h0 : 240 ≤ bn s 0 ∧ bn s 0 < 245) (hn : 3 < s.length) (h1 : bn s 1 / 64 = 2) (h2 : bn s 2 / 64 = 2) (h3 : bn s 3 / 64 = 2) (hv : 65536 ≤ v4 s ∧ v4 s ≤ 1114111) : nextU s = (((v4 s : Nat) : Int), 4) := by
  refine nx_of s h _ _ ?_ (by omega)
  unfold v4 at hv ⊢
  unfold Lib.decodeN
  rw [if_neg (by omega), if_neg (by omega), if_neg (by omega), if_pos (by omega), if_pos (by omega)]
theorem nx_4n (s : List UInt8) (h : s ≠ []) (h0 : 240 ≤ bn s 0 ∧ bn s 0 < 245) (hx : ¬ (3 < s.length ∧ bn s 1 / 64 = 2 ∧ bn s 2 / 64 = 2 ∧ bn s 3 / 64 = 2 ∧ 65536 ≤ v4 s ∧ v4 s ≤ 1114111)) : nextU s = (-1, 1) := by
  refine nx_no s h ?_
  unfold v4 at hx
  rcases Lib.decodeN_shape s.length (bn s 0) (bn s 1) (bn s 2) (bn s 3) with ⟨c, e⟩ | ⟨c1, c2, c3, cv, e⟩ | ⟨c1, c2, c3, c4, cv, cs, e⟩ | ⟨c1, c2, c3, c4, c5, cv, cw, e⟩ | e
  all_goals first | exact e | (exfalso; omega)
end Go.Proofs.YtfbbieecdenlbaaGreatDoor
