/-
  mark.link: where a link in pointed brackets ends.
-/
import Derived.Test.YtpohopmggpiomaaDoorLinkA
namespace Go.Proofs.YtpohopmggpiomaaDoor
open Go.RowKit

theorem linkS_no {S : List UInt8} (h : ¬ (whL endP S 0 < S.length ∧ 3 ≤ whL (quoQ 58) S 0 ∧ whL (quoQ 58) S 0 < whL endP S 0 ∧ bt S (whL endP S 0) = 62 ∧ whL endP S 0 ≤ whL (quoQ 60) S 1 ∧ whL (quoQ 58) S 0 ≤ whL letP S 1)) : linkS S = none := by
  unfold linkS
  rw [if_neg h]
theorem sgn_in (S : List UInt8) (E : Nat) (hE : E ≤ S.length) (h1 : 1 ≤ E) : 0 ≤ Lib.indexByte (seg S 1 E) 60 ↔ ¬ E ≤ whL (quoQ 60) S 1 := by
  have hl := seg_length S 1 E hE
  rw [ib_wh, wh_far _ _ _ _ h1 hE]
  have h2 := wh_far (quoQ ((60 : UInt8).toNat : Int)) (seg S 1 E) 0 (E - 1) (by omega) (by omega)
  have h3 : (∀ k, 0 ≤ k → k < E - 1 → quoQ ((60 : UInt8).toNat : Int) (bt (seg S 1 E) k) = true) ↔ ∀ k, 1 ≤ k → k < E → quoQ 60 (bt S k) = true := by
    constructor
    · intro h k hk1 hk2
      have := h (k - 1) (by omega) (by omega)
      rw [seg_bt _ _ _ _ (by omega), show 1 + (k - 1) = k by omega] at this
      exact this
    · intro h k _ hk2
      rw [seg_bt _ _ _ _ (by omega)]
      exact h (1 + k) (by omega) (by omega)
  rw [← h3, ← h2]
  split
  · constructor
    · intro _; omega
    · intro _; omega
  · constructor
    · intro h; omega
    · intro h; omega
theorem ib_58 (S : List UInt8) : Lib.indexByte S 58 = if whL (quoQ 58) S 0 < S.length then (whL (quoQ 58) S 0 : Int) else -1 := ib_wh S 58

set_option maxRecDepth 100000 in
set_option maxHeartbeats 2000000 in
theorem link_any (bd bs b o c at_ to : Nat) (l : List UInt8) (w : World) (hD : DocR w bd bs b o c l) (hE : Env w) (hto : to ≤ l.length) (hat : at_ < to) :
    Calls Tryd.prog 47 #[.pointer (some ⟨bd, 0, none⟩), .int .i64 at_, .int .i64 to] w fun e w' => e = .returned (optV ((linkS (seg l at_ to)).map (at_ + ·))) ∧ Only [] w w' := by
  have hl' : (l.length : Int) ≤ 65536 := by have := hD.len; omega
  have hlc := hD.cap
  have hcm := hD.max
  have hSl := seg_length l at_ to hto
  have hcS : ∀ k, k < (seg l at_ to).length → w.cell? ⟨b, o + at_ + k, none⟩ = some (.int .u8 (bt (seg l at_ to) k)) := fun k hk => by
    rw [seg_bt _ _ _ _ (by omega), Nat.add_assoc]
    exact hD.cells (at_ + k) (by omega)
  have hbv : BytesV w (.slice (some ⟨b, o + at_, none⟩) (to - at_) (c - at_)) (seg l at_ to) := BytesV.cut hD.cells hlc hcm at_ to (by omega) hto
  obtain ⟨S, hS⟩ : ∃ S, S = seg l at_ to := ⟨_, rfl⟩
  rw [← hS] at hSl hcS hbv ⊢
  have hbt : ∀ k, at_ + k < to → w.cell? ⟨b, o + (at_ + k), none⟩ = some (.int .u8 (bt S k)) := fun k hk => by
    have := hcS k (by omega)
    rwa [Nat.add_assoc] at this
  have c1 := hD.bytes
  have HD := Lib.hid hD
  have HE := Lib.hid hE
  have HCS := Lib.hid hcS
  have HBT := Lib.hid hbt
  have HBV := Lib.hid hbv
  have hS5 : S.length ≤ 65536 := by omega
  clear hD hE hcS hbt hbv hS
  go_enter Tryd.func47, Tryd.ntmps47
  go_wp2_with fail
  refine (idx_any S _ w HE.out HBV.out hS5).mono ?_
  rintro e w1 ⟨rfl, ho1⟩
  have c1' := ho1.cell_some c1 (by simp)
  have HO1 := Lib.hid ho1
  clear ho1 c1
  go_wp2_with fail
  refine (ib_any b (o + at_) (to - at_) (c - at_) S 58 58 w1 rfl hSl (fun k hk => HO1.out.cell_some (HCS.out k hk) (by simp))).mono ?_
  rintro e w2 ⟨rfl, hw2⟩
  subst hw2
  have hno := @linkS_no S
  have hib := ib_58 S
  have hid : idxE S = if whL endP S 0 < S.length then (whL endP S 0 : Int) else -1 := rfl
  have hyes : (whL endP S 0 < S.length ∧ 3 ≤ whL (quoQ 58) S 0 ∧ whL (quoQ 58) S 0 < whL endP S 0 ∧ bt S (whL endP S 0) = 62 ∧ whL endP S 0 ≤ whL (quoQ 60) S 1 ∧ whL (quoQ 58) S 0 ≤ whL letP S 1) → linkS S = some (whL endP S 0 + 1) := fun h => by
    unfold linkS; rw [if_pos h]
  have hsg := sgn_in S (whL endP S 0)
  have hKE : whL (quoQ 58) S 0 < S.length → whL (quoQ 58) S 0 ≠ whL endP S 0 := by
    intro h1 h2
    have a1 : ¬ (quoQ 58 (bt S (whL (quoQ 58) S 0)) = true) := fun h => by
      have := (wh_far (quoQ 58) S 0 (whL (quoQ 58) S 0 + 1) (by omega) (by omega)).2 (fun k _ hk => by
        by_cases e : k = whL (quoQ 58) S 0
        · rw [e]; exact h
        · exact (wh_far (quoQ 58) S 0 (whL (quoQ 58) S 0) (by omega) (by omega)).1 (Nat.le_refl _) k (by omega) (by omega))
      omega
    have a2 : ¬ (endP (bt S (whL endP S 0)) = true) := fun h => by
      have := (wh_far endP S 0 (whL endP S 0 + 1) (by omega) (by omega)).2 (fun k _ hk => by
        by_cases e : k = whL endP S 0
        · rw [e]; exact h
        · exact (wh_far endP S 0 (whL endP S 0) (by omega) (by omega)).1 (Nat.le_refl _) k (by omega) (by omega))
      omega
    rw [h2] at a1
    simp only [quoQ, Bool.not_eq_true', beq_eq_false_iff_ne, ne_eq, Decidable.not_not] at a1
    rw [a1] at a2
    exact a2 (by decide)
  have hwl : whL (quoQ 58) S 0 ≤ whL letP S 1 ↔ ¬ ¬ whL (quoQ 58) S 0 ≤ whL letP S 1 := by simp
  generalize whL endP S 0 = E at *
  generalize whL (quoQ 58) S 0 = K at *
  have HNO := Lib.hid hno
  have HYES := Lib.hid hyes
  have HSG := Lib.hid hsg
  have HKE := Lib.hid hKE
  clear hno hyes hsg hKE hwl
  by_cases h1 : E < S.length
  · rw [if_pos h1] at hid
    rw [hid]
    clear hid
    have hE6 : (E : Int) ≤ 65536 := by omega
    by_cases h2 : K < S.length
    · rw [if_pos h2] at hib
      rw [hib]
      clear hib
      have hK6 : (K : Int) ≤ 65536 := by omega
      by_cases h3 : 3 ≤ K
      · have h3' : (3 : Int) ≤ K := by omega
        by_cases h4 : K < E
        · have h4' : (K : Int) < E := by omega
          have hcE := HO1.out.cell_some (HBT.out E (by omega)) (by simp)
          have haE : ((at_ : Int) + E) < l.length := by omega
          by_cases h5 : bt S E = 62
          · have h5' : (bt S E != 62) = false := by simp [h5]
            have H5 := Lib.hid h5
            clear h5
            go_wp2_with fail
            refine (ib_any b (o + (at_ + 1)) _ _ (seg S 1 E) 60 60 _ rfl ?_ ?_).mono ?_
            · rw [seg_length _ _ _ (by omega)]; omega
            · intro k hk
              rw [seg_length _ _ _ (by omega)] at hk
              rw [seg_bt _ _ _ _ (by omega), show o + (at_ + 1) + k = o + (at_ + (1 + k)) by omega]
              exact HO1.out.cell_some (HBT.out (1 + k) (by omega)) (by simp)
            rintro e w3 ⟨rfl, hw3⟩
            subst hw3
            have hsg' := HSG.out (by omega) (by omega)
            generalize Lib.indexByte (seg S 1 E) 60 = ix at *
            by_cases h6 : 0 ≤ ix
            · have hn6 := HNO.out (fun h => hsg'.1 h6 h.2.2.2.2.1)
              have HN6 := Lib.hid hn6
              clear hsg' hn6
              go_wp2_with fail
              go_ret2
              exact ⟨ret_none (by rw [HN6.out]; rfl), HO1.out⟩
            · have h6' : E ≤ whL (quoQ 60) S 1 := by
                by_cases h : E ≤ whL (quoQ 60) S 1
                · exact h
                · exact absurd (hsg'.2 h) h6
              have H6 := Lib.hid h6'
              clear hsg' h6' hcE
              go_wp2_with fail
              go_loopw [11, 76] (fun _ i wr => wr = w3 ∧ ∃ j : Nat, 1 + j ≤ K ∧ i = .int .i64 j ∧ whL letP S 1 = whL letP S (1 + j)) (fun _ i _ => K - (intOf i).toNat)
              case atStart => exact ⟨rfl, 0, by omega, rfl, rfl⟩
              case round =>
                obtain ⟨rfl, j, hj, rfl, hrun⟩ := hrel
                have HRUN := Lib.hid hrun
                clear hrun
                by_cases hlt : 1 + j < K
                · have hcj := HO1.out.cell_some (HBT.out (1 + j) (by omega)) (by simp)
                  rw [show o + (at_ + (1 + j)) = o + (at_ + 1) + j by omega] at hcj
                  have hjn : (j : Int) < ((at_ + K - (at_ + 1) : Nat) : Int) := by omega
                  have hr := bt_range S (1 + j)
                  have HLT := Lib.hid hlt
                  have HNL : Hid (letP (bt S (1 + j)) = false → linkS S = none) := Lib.hid fun hle => HNO.out (fun h => by
                    have h6 := h.2.2.2.2.2
                    rw [HRUN.out, whL_stop letP S (1 + j) (by rw [hle]; simp)] at h6
                    omega)
                  have HYL : Hid (letP (bt S (1 + j)) = true → whL letP S 1 = whL letP S (1 + (j + 1))) := Lib.hid fun hle => by
                    rw [HRUN.out, whL_go letP S (1 + j) (by omega) hle]
                    rfl
                  generalize bt S (1 + j) = y at *
                  by_cases a1 : 97 ≤ y <;> by_cases a2 : y ≤ 122 <;> by_cases a3 : 65 ≤ y <;> by_cases a4 : y ≤ 90
                  all_goals
                    first
                    | (exfalso; omega)
                    | (have hle : letP y = true := by simp [letP, a1, a2, a3, a4]
                       have hyl := HYL.out hle
                       have HY2 := Lib.hid hyl
                       clear hyl hle
                       go_wp2_with fail
                       go_roundw
                       case' rel => exact ⟨by first | rfl | trivial, j + 1, by omega, by go_num, HY2.out⟩
                       case' measure => simp [intOf]; omega)
                    | (have hle : letP y = false := by simp [letP, a1, a2, a3, a4]
                       have hnl := HNL.out hle
                       have HN2 := Lib.hid hnl
                       clear hnl hle
                       go_wp2_with fail
                       go_ret2
                       exact ⟨ret_none (by rw [HN2.out]; rfl), HO1.out⟩)
                · have hK : K ≤ whL letP S 1 := by
                    rw [HRUN.out]
                    have := whL_ge letP S (1 + j)
                    omega
                  have hyy := HYES.out ⟨h1, h3, h4, H5.out, H6.out, hK⟩
                  have HYY := Lib.hid hyy
                  clear hyy hK
                  go_wp2_with fail
                  go_ret2
                  exact ⟨ret_some (m := at_ + (E + 1)) (by rw [HYY.out]; rfl) (by omega), HO1.out⟩
          · have h5' : (bt S E != 62) = true := by simpa using h5
            have H5 := Lib.hid h5
            clear h5
            go_wp2_with fail
            go_ret2
            exact ⟨ret_none (by rw [HNO.out (fun h => H5.out h.2.2.2.1)]; rfl), HO1.out⟩
        · have hke := HKE.out h2
          have h4' : (E : Int) < K := by omega
          go_wp2_with fail
          go_ret2
          exact ⟨ret_none (by rw [HNO.out (fun h => h4 h.2.2.1)]; rfl), HO1.out⟩
      · have h3' : (K : Int) < 3 := by omega
        go_wp2_with fail
        go_ret2
        exact ⟨ret_none (by rw [HNO.out (fun h => h3 h.2.1)]; rfl), HO1.out⟩
    · rw [if_neg h2] at hib
      rw [hib]
      clear hib
      go_wp2_with fail
      go_ret2
      exact ⟨ret_none (by rw [HNO.out (fun h => by omega)]; rfl), HO1.out⟩
  · rw [if_neg h1] at hid
    rw [hid]
    clear hid
    generalize Lib.indexByte S 58 = ix at *
    clear hib
    go_wp2_with fail
    go_ret2
    exact ⟨ret_none (by rw [HNO.out (fun h => h1 h.1)]; rfl), HO1.out⟩
end Go.Proofs.YtpohopmggpiomaaDoor
