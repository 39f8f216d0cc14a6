/-
  mark.link: what it asks of bytes.
-/
import Derived.Test.YtpohopmggpiomaaDoorIdxC
import Derived.Test.YtpohopmggpiomaaDoorMarkI
namespace Go.Proofs.YtpohopmggpiomaaDoor
open Go.RowKit

theorem idx_any (s : List UInt8) (v : Value) (w : World) (hE : Env w) (hv : BytesV w v s) (hl : s.length ≤ 65536) :
    Calls Tryd.prog 58 #[v, .string ⟨#[62, 32, 9, 13, 10]⟩] w fun e w' => e = .returned (.int .i64 (idxE s)) ∧ Only [] w w' := by
  obtain ⟨p, c, rfl, hc, hm, hb⟩ := hv
  by_cases h0 : s.length = 0
  · obtain rfl := List.eq_nil_of_length_eq_zero h0
    exact idx_nil p c w
  · obtain ⟨b, o, rfl, hcell⟩ := hb (by omega)
    by_cases h8 : 8 < s.length
    · exact idx_long b o c s w hl h8 hcell
    · by_cases h1 : s.length = 1
      · obtain ⟨x, rfl⟩ := List.length_eq_one_iff.1 h1
        have h := hcell 0 (by simp)
        rw [Nat.add_zero] at h
        have e : idxE [x] = if endC.contains x then 0 else -1 := by
          cases hx : endC.contains x
          · have : NoE [x] 1 := NoE.next (k := 0) rfl (by simp) hx
            rw [this.none (by simp)]; rfl
          · have : NoE [x] 0 := rfl
            rw [this.hit (by simp) hx]; rfl
        rw [e]
        exact idx_one b o c x w h
      · exact idx_short b o c s w hE (by omega) (by omega) hc hcell

theorem ib_wh (s : List UInt8) (c : UInt8) : Lib.indexByte s c = if whL (quoQ (c.toNat : Int)) s 0 < s.length then (whL (quoQ (c.toNat : Int)) s 0 : Int) else -1 := by
  induction s with
  | nil => rfl
  | cons b l ih =>
    have hp := whL_pre (quoQ (c.toNat : Int)) [b] l 0
    rw [List.length_singleton] at hp
    have hb0 : bt (b :: l) 0 = (b.toNat : Int) := rfl
    rw [Lib.indexByte]
    by_cases h : b = c
    · subst h
      rw [if_pos (by simp), whL_stop _ _ _ (by rw [hb0]; simp [quoQ]), if_pos (by simp)]
      rfl
    · have hq : quoQ (c.toNat : Int) (bt (b :: l) 0) = true := by
        rw [hb0]
        simp only [quoQ, Bool.not_eq_true', beq_eq_false_iff_ne, ne_eq]
        intro e
        exact h (UInt8.toNat_inj.1 (by omega))
      rw [if_neg (by simpa using h), whL_go _ _ _ (by simp) hq]
      rw [show (b :: l : List UInt8) = [b] ++ l from rfl, show (0 + 1 : Nat) = 1 + 0 from rfl, hp, ih, List.length_append, List.length_singleton]
      by_cases hl : whL (quoQ (c.toNat : Int)) l 0 < l.length
      · rw [if_pos hl, if_neg (by rw [beq_iff_eq]; omega), if_pos (by omega)]; omega
      · rw [if_neg hl, if_pos (by rfl), if_neg (by omega)]

theorem ib_any (b o n cap : Nat) (s : List UInt8) (cv : Int) (c : UInt8) (w : World) (hcv : cv.toNat.toUInt8 = c) (hn : s.length = n) (hc : ∀ k, k < s.length → w.cell? ⟨b, o + k, none⟩ = some (.int .u8 (bt s k))) :
    Calls Tryd.prog 59 #[.slice (some ⟨b, o, none⟩) n cap, .int .u8 cv] w fun e w' => e = .returned (.int .i64 (Lib.indexByte s c)) ∧ w' = w := by
  have h := Tryd.bytes_IndexByte_bytes b o cap ⟨s.toArray⟩ cv w (fun i hi => by
    have hi' : i < s.length := by rwa [sv_len] at hi
    rw [hc i hi']
    rw [bt, List.getD_eq_getElem?_getD, List.getElem?_eq_getElem hi']
    rfl)
  rw [sv_len, hcv] at h
  subst hn
  exact h
theorem seg_bt (l : List UInt8) (i j k : Nat) (h : k < j - i) : bt (seg l i j) k = bt l (i + k) := by
  unfold seg bt
  rw [List.getD_eq_getElem?_getD, List.getD_eq_getElem?_getD, List.getElem?_take, if_pos h, List.getElem?_drop]
theorem seg_seg (l : List UInt8) (a to i j : Nat) (hj : a + j ≤ to) : seg (seg l a to) i j = seg l (a + i) (a + j) := by
  unfold seg
  rw [List.drop_take, List.drop_drop, List.take_take]
  congr 1
  omega

/-- All letters from place i up to place j: just if the letters go on so far. -/
theorem wh_far (p : Int → Bool) (s : List UInt8) (i j : Nat) (hij : i ≤ j) (hj : j ≤ s.length) : j ≤ whL p s i ↔ ∀ k, i ≤ k → k < j → p (bt s k) = true := by
  obtain ⟨d, rfl⟩ : ∃ d, j = i + d := ⟨j - i, by omega⟩
  clear hij
  induction d generalizing i with
  | zero => exact ⟨fun _ k h1 h2 => by omega, fun _ => whL_ge _ _ _⟩
  | succ d ih =>
    by_cases h : p (bt s i) = true
    · rw [whL_go _ _ _ (by omega) h]
      have := ih (i + 1) (by omega)
      rw [show i + 1 + d = i + (d + 1) by omega] at this
      rw [this]
      constructor
      · intro hh k h1 h2
        by_cases e : k = i
        · subst e; exact h
        · exact hh k (by omega) h2
      · intro hh k h1 h2; exact hh k (by omega) h2
    · rw [whL_stop _ _ _ (fun hh => h hh.2)]
      constructor
      · intro hh; omega
      · intro hh; exact absurd (hh i (Nat.le_refl _) (by omega)) h
end Go.Proofs.YtpohopmggpiomaaDoor
