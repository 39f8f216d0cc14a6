/-
  html.small: A to Z as a to z.
-/
import Derived.Test.YtpohopmggpiomaaDoorHtmlP
import Derived.Test.YtpohopmggpiomaaDoorLines
namespace Go.Proofs.YtpohopmggpiomaaDoor
open Go.RowKit

def midL (l : List UInt8) (k : Nat) : List UInt8 := smallL (l.take k) ++ l.drop k
theorem midL_length (l : List UInt8) (k : Nat) : (midL l k).length = l.length := by simp [midL, smallL]; omega
theorem midL_zero (l : List UInt8) : midL l 0 = l := by simp [midL, smallL]
theorem midL_end (l : List UInt8) : midL l l.length = smallL l := by simp [midL]
theorem midL_at (l : List UInt8) (k : Nat) (h : k < l.length) : bt (midL l k) k = bt l k := by
  have h1 : (smallL (l.take k)).length = k := by simp [smallL]; omega
  unfold midL bt
  rw [List.getD_eq_getElem?_getD, List.getElem?_append_right (by omega), h1, List.getElem?_drop, Nat.sub_self, List.getD_eq_getElem?_getD]
  rfl
theorem midL_set (l : List UInt8) (k : Nat) (h : k < l.length) : midL l (k + 1) = (midL l k).set k (lowB l[k]) := by
  have h1 : (smallL (l.take k)).length = k := by simp [smallL]; omega
  have h2 : smallL (l.take (k + 1)) = smallL (l.take k) ++ [lowB l[k]] := by
    unfold smallL
    rw [List.take_succ_eq_append_getElem h, List.map_append]
    rfl
  unfold midL
  rw [List.set_append_right _ _ (by omega), h1, Nat.sub_self, List.drop_eq_getElem_cons h, List.set_cons_zero, h2, List.append_assoc]
  rfl
theorem byteRow_set (l : List UInt8) (k : Nat) (b : UInt8) (x : Int) (hx : x = b.toNat) : (byteRow l).set k (.int .u8 x) = byteRow (l.set k b) := by
  subst hx
  unfold byteRow
  rw [List.map_set]
theorem midL_same (l : List UInt8) (k : Nat) (h : k < l.length) (hn : ¬ (65 ≤ bt l k ∧ bt l k ≤ 90)) : midL l (k + 1) = midL l k := by
  rw [midL_set l k h]
  have hb : bt l k = l[k].toNat := by simp [bt, h]
  rw [hb] at hn
  have e : lowB l[k] = l[k] := by
    unfold lowB
    rw [if_neg]
    intro hh
    rw [UInt8.le_iff_toNat_le, UInt8.le_iff_toNat_le] at hh
    apply hn
    have h1 : (65 : UInt8).toNat = 65 := rfl
    have h2 : (90 : UInt8).toNat = 90 := rfl
    omega
  rw [e]
  apply List.ext_getElem (by simp)
  intro j h1 h2
  rw [List.getElem_set]
  split
  · rename_i hj
    subst hj
    have h3 := midL_at l k h
    have h4 : bt (midL l k) k = (midL l k)[k].toNat := by simp [bt, h2]
    rw [h4, hb] at h3
    exact (UInt8.toNat_inj.1 (by omega)).symm
  · rfl
theorem lowB_up {b : UInt8} (h : 65 ≤ (b.toNat : Int) ∧ (b.toNat : Int) ≤ 90) : ((lowB b).toNat : Int) = (b.toNat : Int) + 32 := by
  have h1 : (65 : UInt8).toNat = 65 := rfl
  have h2 : (90 : UInt8).toNat = 90 := rfl
  have h3 : (32 : UInt8).toNat = 32 := rfl
  unfold lowB
  rw [if_pos ⟨by rw [UInt8.le_iff_toNat_le]; omega, by rw [UInt8.le_iff_toNat_le]; omega⟩, UInt8.toNat_add]
  omega
theorem row_up {l : List UInt8} {k : Nat} (h : k < l.length) (hr : 65 ≤ bt l k ∧ bt l k ≤ 90) : (byteRow (midL l k)).set k (.int .u8 (bt l k + 32)) = byteRow (midL l (k + 1)) := by
  have hb : bt l k = l[k].toNat := by simp [bt, h]
  rw [midL_set l k h]
  exact byteRow_set _ _ _ _ (by rw [hb] at hr ⊢; exact (lowB_up hr).symm)

set_option maxHeartbeats 400000 in
theorem small_any (l : List UInt8) (v : Value) (w : World) (h : BytesV w v l) (hl : l.length ≤ 65536) :
    Calls Tryd.prog 67 #[v] w fun e w' => e = .returned (.string ⟨(smallL l).toArray⟩) ∧ Only [] w w' := by
  have HV := Lib.hid h
  obtain ⟨p, c, rfl, hc, hm, hk⟩ := h
  have HL := Lib.hid hl
  have hl' : (l.length : Int) ≤ 65536 := by omega
  clear hl hk
  go_enter Tryd.func67, Tryd.ntmps67
  go_wp2_with (at_builtin; (refine wpList_append_src rfl (.tmp 6) (.tmp 7) 22 22 rfl w [] 5 (.int .u8 0) 1 1 Tryd.underlying22 infoByte rfl (by decide) (.slice (some ⟨w.heap.size, 0, none⟩) 0 0) 0 [] rfl ?c1 ((Only.refl [] w).alloc _) (.slice p l.length c) l.length (byteRow l) rfl ?c2 ?c3 ?c4 ?_))
  case c1 => exact ownsRow_empty w w.heap.size 5 1 (Nat.le_refl _)
  case c2 => exact Src.bytes Tryd.underlying22 (HV.out.keep fun p x hp => ((Only.refl [] w).alloc _).cell_some hp (by simp))
  case c3 => have := HL.out; unfold maxLen; omega
  case c4 => have := HL.out; omega
  intro vy w1 hy ho1
  obtain ⟨py, cy, rfl, hcy⟩ := ownsRow_shape hy
  have HY := Lib.hid hy
  have HO := Lib.hid ho1
  clear hy ho1
  go_wp2
  go_loopw [4, 5, 11] (fun _ _ i wr => ∃ k : Nat, k ≤ l.length ∧ i = .int .i64 k ∧ Only [] w wr ∧ wr.ownsRow w.heap.size 5 1 (.slice py l.length cy) l.length (byteRow (midL l k))) (fun _ _ i _ => l.length - (intOf i).toNat)
  case atStart => exact ⟨0, by omega, rfl, HO.out, by rw [midL_zero]; exact HY.out⟩
  case round =>
    obtain ⟨k, hkl, rfl, ho, hown⟩ := hrel
    by_cases hlt : k < l.length
    · obtain ⟨g, cg, hpr, hg, -⟩ := ownsRow_some hown (by omega)
      simp only [Value.slice.injEq, true_and] at hpr
      obtain ⟨rfl, rfl⟩ := hpr
      have hc0 : wr.cell? ⟨g, k, none⟩ = some (.int .u8 (bt l k)) := by
        rw [hown.cellAt k (by omega), byteRow_get _ _ (by rw [midL_length]; exact hlt), midL_at l k hlt]
      have hfr := hown.frozenAt k
      have hr := bt_range l k
      have HOW := Lib.hid hown
      have HO2 := Lib.hid ho
      have HLT := Lib.hid hlt
      clear hown ho
      by_cases h65 : 65 ≤ bt l k
      · by_cases h90 : bt l k ≤ 90
        · go_wp2
          go_roundw
          case rel =>
            have hs := HOW.out.stored k (.int .u8 (bt l k + 32))
            have e32 : bt l k + 97 - 65 = bt l k + 32 := by omega
            rw [e32]
            exact ⟨k + 1, by omega, by go_num, HO2.out.setCell (.inr hg) _, by rw [← row_up HLT.out ⟨h65, h90⟩]; exact hs.1⟩
          case measure => simp [intOf]; omega
        · go_wp2
          go_roundw
          case rel => exact ⟨k + 1, by omega, by go_num, HO2.out, by rw [midL_same l k HLT.out (by omega)]; exact HOW.out⟩
          case measure => simp [intOf]; omega
      · go_wp2
        go_roundw
        case rel => exact ⟨k + 1, by omega, by go_num, HO2.out, by rw [midL_same l k HLT.out (by omega)]; exact HOW.out⟩
        case measure => simp [intOf]; omega
    · obtain rfl : k = l.length := by omega
      have hcv : (convert 22 9 (.slice py l.length cy)).run Tryd.prog wr = .ok (sv (smallL l)) wr := by
        rw [midL_end] at hown
        have e : l.length = (smallL l).length := by simp [smallL]
        have hb := BytesV.of_row (l := smallL l) (n := l.length) hown
        exact conv_bytes hb _ _ 5 Tryd.underlying22 Tryd.underlying5 Tryd.underlying9
      have HO2 := Lib.hid ho
      clear hown ho
      go_wp2
      go_ret
      exact ⟨rfl, HO2.out⟩
end Go.Proofs.YtpohopmggpiomaaDoor
