/-
  Signs of a text, plainly: runes as bytes, and read again.
-/
import Derived.Test.YtfbbieecdenlbaaGreatDoorFoldP
namespace Go.Proofs.YtfbbieecdenlbaaGreatDoor
open Go.RowKit

theorem bn_cons0 (x : UInt8) (s : List UInt8) : bn (x :: s) 0 = x.toNat := rfl
theorem bn_cons1 (x y : UInt8) (s : List UInt8) : bn (x :: y :: s) 1 = y.toNat := rfl
theorem bn_cons2 (x y z : UInt8) (s : List UInt8) : bn (x :: y :: z :: s) 2 = z.toNat := rfl
theorem bn_cons3 (x y z u : UInt8) (s : List UInt8) : bn (x :: y :: z :: u :: s) 3 = u.toNat := rfl
theorem by8_nat (y : Int) (h0 : 0 ≤ y) (h1 : y ≤ 255) : (by8 y).toNat = y.toNat := by
  have := by8_toNat y h0 h1
  omega
theorem next_enc (r : Int) (s : List UInt8) (h : okU r = true) : nextU (encU r ++ s) = (r, (encU r).length) := by
  have hr : ¬ noU r := fun e => by rw [(enc_no r e).1] at h; cases h
  unfold noU at hr
  by_cases h1 : r ≤ 127
  · rw [(enc_1 r (by omega) h1).2, List.cons_append, List.nil_append]
    have e0 := by8_nat r (by omega) (by omega)
    rw [nx_ascii _ (by simp) (by rw [bn_cons0, e0]; omega), bn_cons0, e0]
    congr 1
    omega
  · by_cases h2 : r ≤ 2047
    · rw [(enc_2 r (by omega) h2).2, List.cons_append, List.cons_append, List.nil_append]
      have e0 := by8_nat (192 + r / 64) (by omega) (by omega)
      have e1 := by8_nat (128 + r % 64) (by omega) (by omega)
      rw [nx_2 _ (by simp) (by rw [bn_cons0, e0]; omega) (by simp) (by rw [bn_cons1, e1]; omega), bn_cons0, bn_cons1, e0, e1]
      congr 1
      omega
    · by_cases h3 : r ≤ 65535
      · rw [(enc_3 r (by omega) h3 (by omega)).2]
        simp only [List.cons_append, List.nil_append]
        have e0 := by8_nat (224 + r / 4096) (by omega) (by omega)
        have e1 := by8_nat (128 + r / 64 % 64) (by omega) (by omega)
        have e2 := by8_nat (128 + r % 64) (by omega) (by omega)
        have ev : v3 (by8 (224 + r / 4096) :: by8 (128 + r / 64 % 64) :: by8 (128 + r % 64) :: s) = r.toNat := by
          unfold v3
          rw [bn_cons0, bn_cons1, bn_cons2, e0, e1, e2]
          omega
        rw [nx_3 _ (by simp) (by rw [bn_cons0, e0]; omega) (by simp) (by rw [bn_cons1, e1]; omega) (by rw [bn_cons2, e2]; omega) (by rw [ev]; omega), ev]
        congr 1
        omega
      · rw [(enc_4 r (by omega) (by omega)).2]
        simp only [List.cons_append, List.nil_append]
        have e0 := by8_nat (240 + r / 262144) (by omega) (by omega)
        have e1 := by8_nat (128 + r / 4096 % 64) (by omega) (by omega)
        have e2 := by8_nat (128 + r / 64 % 64) (by omega) (by omega)
        have e3 := by8_nat (128 + r % 64) (by omega) (by omega)
        have ev : v4 (by8 (240 + r / 262144) :: by8 (128 + r / 4096 % 64) :: by8 (128 + r / 64 % 64) :: by8 (128 + r % 64) :: s) = r.toNat := by
          unfold v4
          rw [bn_cons0, bn_cons1, bn_cons2, bn_cons3, e0, e1, e2, e3]
          omega
        rw [nx_4 _ (by simp) (by rw [bn_cons0, e0]; omega) (by simp) (by rw [bn_cons1, e1]; omega) (by rw [bn_cons2, e2]; omega) (by rw [bn_cons3, e3]; omega) (by rw [ev]; omega), ev]
        congr 1
        omega
theorem enc_pos (r : Int) (h : okU r = true) : 0 < (encU r).length := by
  have := next_enc r [1] h
  have h2 := nextU_pos (encU r ++ [1]) (by simp)
  rw [this] at h2
  exact h2.1
theorem units_text : ∀ (l : List Int) (p : List UInt8), (∀ r ∈ l, okU r = true) → (unitsF (p ++ textU l) p.length).map (·.1) = l := by
  intro l
  induction l with
  | nil => intro p _; rw [unitsF_end _ _ (by simp [textU])]; rfl
  | cons a l ih =>
    intro p h
    have ha := h a (by simp)
    have hp := enc_pos a ha
    have e : textU (a :: l) = encU a ++ textU l := by simp [textU]
    rw [e, unitsF_step _ _ (by simp; omega), List.drop_left, next_enc a _ ha]
    have := ih (p ++ encU a) (fun r hr => h r (by simp [hr]))
    rw [List.append_assoc, List.length_append] at this
    rw [List.map_cons, this]
theorem runes_text (l : List Int) (h : ∀ r ∈ l, okU r = true) : runesU (textU l) = l := units_text l [] h
/-- What nextU reads is a rune, or none. -/
theorem next_ok (s : List UInt8) (h : 0 ≤ (nextU s).1) : okU (nextU s).1 = true := by
  unfold nextU at h ⊢
  split
  · rename_i e; rw [if_pos e] at h; simp at h
  · rename_i e
    rw [if_neg e] at h
    split
    · rename_i e2; rw [if_pos e2] at h; simp at h
    · rw [Lib.decodeL_N]
      have k0 := (s.getD 0 0).toNat_lt
      have k1 := (s.getD 1 0).toNat_lt
      have k2 := (s.getD 2 0).toNat_lt
      have k3 := (s.getD 3 0).toNat_lt
      refine ok_of _ ?_
      unfold noU
      rcases Lib.decodeN_shape s.length (s.getD 0 0).toNat (s.getD 1 0).toNat (s.getD 2 0).toNat (s.getD 3 0).toNat with ⟨c, e⟩ | ⟨c1, c2, c3, cv, e⟩ | ⟨c1, c2, c3, c4, cv, cs, e⟩ | ⟨c1, c2, c3, c4, c5, cv, cw, e⟩ | e <;> rw [e] <;> dsimp only <;> omega
theorem runesU_ok (s : List UInt8) : ∀ r ∈ runesU s, 0 ≤ r → okU r = true := by
  have h : ∀ d k, ∀ u ∈ unitsN s d k, 0 ≤ u.1 → okU u.1 = true := by
    intro d
    induction d with
    | zero => intro k u hu; simp [unitsN] at hu
    | succ d ih =>
      intro k u hu
      rw [unitsN] at hu
      split at hu
      · rcases List.mem_cons.1 hu with rfl | hu
        · exact next_ok _
        · exact ih _ u hu
      · simp at hu
  intro r hr
  unfold runesU at hr
  obtain ⟨u, hu, rfl⟩ := List.mem_map.1 hr
  exact h _ _ u hu
theorem down_ok (r : Int) (h : okU r = true) : okU (downU r) = true := by
  unfold downU
  split
  · rename_i hg
    unfold greatU at hg
    unfold okU at h ⊢
    simp at hg h ⊢
    omega
  · exact h
theorem down_up (r : Int) (h : greatU r = false) : downU (upU r) = r ∧ (okU r = true → okU (upU r) = true) := by
  unfold downU upU
  by_cases hs : smallU r = true
  · rw [if_pos hs]
    have hg : greatU (r - 32) = true := by
      unfold smallU at hs
      unfold greatU
      simp at hs ⊢
      omega
    rw [if_pos hg]
    refine ⟨by omega, fun ho => ?_⟩
    unfold smallU at hs
    unfold okU at ho ⊢
    simp at hs ho ⊢
    omega
  · rw [if_neg hs, h]
    exact ⟨rfl, id⟩
theorem great_down (r : Int) : greatU (downU r) = false := by
  unfold downU
  split
  · rename_i hg
    unfold greatU at hg ⊢
    simp at hg ⊢
    omega
  · rename_i hg
    simpa using hg
theorem down_id (r : Int) (h : greatU r = false) : downU r = r := by
  unfold downU
  rw [h]
  rfl
end Go.Proofs.YtfbbieecdenlbaaGreatDoor
