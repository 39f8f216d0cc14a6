/-
  redpenref10.Mark at one line that begins with a bracket.
-/
import Derived.Test.YtpohopmggpiomaaGreatDoorRefM
namespace Go.Proofs.YtpohopmggpiomaaGreatDoor
open Go.RowKit

/-- One line that begins with [ and another sign, then ](. -/
structure OneLine (l : List UInt8) : Prop where
  calm : Calm l
  no10 : ∀ k, k < l.length → bt l k ≠ 10
  len : 4 ≤ l.length ∧ l.length ≤ 65536
  b0 : bt l 0 = 91
  b1 : bt l 1 ≠ 93
  b2 : bt l 2 = 93
  b3 : bt l 3 = 40

theorem trimL_head0 (b : UInt8) (t : List UInt8) (h : [32, 9, 13, 10].contains b = false) : ∃ t', trimL (b :: t) = b :: t' := by
  unfold trimL Lib.trimRightS
  have key : ∀ (u : List UInt8), ∃ u', List.dropWhile (fun x => [32, 9, 13, 10].contains x) (u ++ [b]) = u' ++ [b] := by
    intro u
    induction u with
    | nil => exact ⟨[], by simp only [List.nil_append, List.dropWhile, h]⟩
    | cons c u ih =>
      rw [List.cons_append, List.dropWhile]
      split
      · exact ih
      · exact ⟨c :: u, rfl⟩
  obtain ⟨u', e⟩ := key t.reverse
  rw [List.reverse_cons]
  exact ⟨u'.reverse, by rw [e]; simp⟩

theorem OneLine.cons {l : List UInt8} (h : OneLine l) : ∃ t, l = 91 :: t := by
  obtain ⟨h4, -⟩ := h.len
  cases l with
  | nil => simp at h4
  | cons b t =>
    have := h.b0
    have hb : b = 91 := UInt8.toNat_inj.1 (by simp [bt] at this; simp; omega)
    subst hb
    exact ⟨t, rfl⟩

theorem OneLine.trim {l : List UInt8} (h : OneLine l) : (trimL l == [45, 45, 45]) = false ∧ (trimL l).isEmpty = false := by
  obtain ⟨t, rfl⟩ := h.cons
  obtain ⟨t', e⟩ := trimL_head0 91 t (by decide)
  rw [e]
  exact ⟨by simp, rfl⟩

theorem OneLine.indent {l : List UInt8} (h : OneLine l) : indentL l = 0 := by
  have h0 := h.b0
  unfold indentL
  rw [indN_stop _ _ _ (by rw [h0]; omega), indK, if_neg (by rw [h0]; omega)]

set_option maxRecDepth 100000 in
set_option maxHeartbeats 1000000 in
theorem rmark_one (P : Nat → List Int → Nat × List Int) (l : List UInt8) (w : World) (h : OneLine l) (hP : POk P l l.length) :
    Calls Tryz.prog 10 #[.string ⟨l.toArray⟩] w fun e w' => ∃ bl, e = .returned (.slice (some ⟨bl, 0, none⟩) l.length l.length) ∧ Only [] w w' ∧ w.heap.size ≤ bl ∧ LabAt w' bl (inlL P l 0 l.length (List.replicate l.length 1)) := by
  have hl : (l.length : Int) ≤ 65536 := by have := h.len; omega
  have hl0 : (4 : Int) ≤ (l.length : Int) := by have := h.len; omega
  have hsz : (⟨l.toArray⟩ : ByteArray).size = l.length := by simp [ByteArray.size]
  have hex : (⟨l.toArray⟩ : ByteArray).extract 0 l.length = ⟨l.toArray⟩ := by
    apply ByteArray.ext; apply Array.ext'
    rw [ByteArray.data_extract, Array.toList_extract]
    simp
  have HEX := Lib.hid hex
  have HSZ := Lib.hid hsz
  have H := Lib.hid h
  have HP := Lib.hid hP
  have ⟨ht1, ht2⟩ := h.trim
  have TR : Hid (∀ w, Calls Tryz.prog 19 #[.string ⟨l.toArray⟩] w fun e w' => e = .returned (.string ⟨(trimL l).toArray⟩) ∧ w = w') := fun w => rtrim_any ⟨l.toArray⟩ w (by rw [hsz]; omega)
  have IN : Hid (∀ w, Calls Tryz.prog 22 #[.string ⟨l.toArray⟩] w fun e w' => e = .returned (.int .i64 0) ∧ w = w') := fun w => by
    have := rindent_any ⟨l.toArray⟩ w (by rw [hsz]; omega)
    rw [show (⟨l.toArray⟩ : ByteArray).data.toList = l from rfl, h.indent] at this
    exact this
  have FE : Hid (∀ w, Calls Tryz.prog 23 #[.string ⟨l.toArray⟩] w fun e w' => e = .returned (.string ⟨#[]⟩) ∧ w = w') := fun w =>
    rfence_none ⟨l.toArray⟩ w (by rw [hsz]; omega) h.indent (by rw [hsz]; omega) (by show bt l 0 ≠ 96; rw [h.b0]; decide) (by show bt l 0 ≠ 126; rw [h.b0]; decide)
  have RE : Hid (∀ w, Calls Tryz.prog 24 #[.string ⟨l.toArray⟩] w fun e w' => e = .returned (.bool false) ∧ w = w') := fun w =>
    rrefers_none ⟨l.toArray⟩ w (by rw [hsz]; omega) h.indent (by rw [hsz]; omega) h.b0 h.b1 h.b2 h.b3
  have TX : Hid (∀ bl w, LabAt w bl (List.replicate l.length 1) → Calls Tryz.prog 25 #[.slice (some ⟨bl, 0, none⟩) l.length l.length, .string ⟨l.toArray⟩, .int .i64 0] w fun e w' => e = .returned (.tuple #[]) ∧ Only [bl] w w' ∧ LabAt w' bl (inlL P l 0 l.length (List.replicate l.length 1))) := fun bl w hw => by
    have := rtext_any bl P ⟨l.toArray⟩ 0 (List.replicate l.length 1) w hw (by rw [hsz, List.length_replicate]) (Nat.zero_le _) h.calm (by rw [hsz]; exact hP)
    rw [hsz] at this
    rw [show labV bl (List.replicate l.length 1) = .slice (some ⟨bl, 0, none⟩) l.length l.length by unfold labV; rw [List.length_replicate]] at this
    exact this
  clear h hP hsz hex
  go_enter Tryz.func10, Tryz.ntmps10
  go_wp2_with fail
  refine (all_any l.length w hl).mono ?_
  rintro e w1 ⟨bl, rfl, ho1, hb1, hlab1⟩
  have HO1 := Lib.hid ho1
  have HLAB1 := Lib.hid hlab1
  have HB1 := Lib.hid hb1
  clear ho1 hlab1 hb1
  obtain ⟨c', w2, hcv, ho2, hv2⟩ := conv_str l (by unfold maxLen; omega) w1
  have HO2 := Lib.hid ho2
  have HV2 := Lib.hid hv2
  clear ho2 hv2
  go_wp2_with fail
  refine (rlines_one l _ w2 HV2.out (by omega) (by omega) H.out.no10).mono ?_
  rintro e w3 ⟨r, rfl, ho3, p, c, hr, hc, hm, hk⟩
  obtain ⟨g, o, rfl, hcell⟩ := hk (by simp)
  have c0 : w3.cell? ⟨g, o, none⟩ = some (.string ⟨l.toArray⟩) := hcell 0 (by simp)
  obtain rfl : r = .slice (some ⟨g, o, none⟩) 1 c := hr
  have HO3 := Lib.hid (HO2.out.trans ho3)
  have hc1 : 1 ≤ c := hc
  clear ho3 hc hk hcell hcv
  go_wp2_with fail
  refine (TR.out w3).mono ?_
  rintro e w4 ⟨rfl, rfl⟩
  go_wp2_with fail
  refine wp_loop_rounds 2 ?_
  rw [rounds_succ]
  go_wp2_with fail
  refine (TR.out w3).mono ?_
  rintro e w4 ⟨rfl, rfl⟩
  go_wp2_with fail
  refine (IN.out w3).mono ?_
  rintro e w4 ⟨rfl, rfl⟩
  go_wp2_with fail
  refine (FE.out w3).mono ?_
  rintro e w4 ⟨rfl, rfl⟩
  go_wp2_with fail
  refine (RE.out w3).mono ?_
  rintro e w4 ⟨rfl, rfl⟩
  go_wp2_with fail
  rw [HEX.out]
  refine (TX.out bl w3 (HLAB1.out.keep HO3.out (by simp))).mono ?_
  rintro e w4 ⟨rfl, ho4, hlab4⟩
  have HO4 := Lib.hid ho4
  have HLAB4 := Lib.hid hlab4
  clear ho4 hlab4
  go_wp2_with fail
  rw [rounds_succ]
  go_wp2_with fail
  go_ret
  exact ⟨bl, rfl, (HO1.out.trans HO3.out).trans' HO4.out (by simp; exact HB1.out), HB1.out, HLAB4.out⟩
end Go.Proofs.YtpohopmggpiomaaGreatDoor
