/-
  redpenref10: a place in a text, a line's indent, blanks at its end, brackets.
-/
import Derived.Test.YtpohopmggpiomaaGreatDoorMarkD
namespace Go.Proofs.YtpohopmggpiomaaGreatDoor
open Go.RowKit

/-- Does a text stand at a place? -/
def atB (s : ByteArray) (i : Nat) (t : ByteArray) : Bool := decide (i + t.size ≤ s.size) && ((s.extract i (i + t.size)).data.toList == t.data.toList)

set_option maxHeartbeats 400000 in
theorem at_any (s t : ByteArray) (i : Nat) (w : World) (hs : s.size ≤ 1099511627776) (ht : t.size ≤ 1099511627776) (hi : i ≤ 1099511627776) :
    Calls Tryz.prog 37 #[.string s, .int .i64 i, .string t] w fun e w' => e = .returned (.bool (atB s i t)) ∧ w = w' := by
  by_cases hle : i + t.size ≤ s.size
  · have hd : decide (i + t.size ≤ s.size) = true := by simp [hle]
    go_enter Tryz.func37, Tryz.ntmps37
    go_wp2
    go_ret
    exact ⟨ret_bool (by rw [atB, hd, Bool.true_and, ByteArray.toList_eq, ByteArray.toList_eq]), rfl⟩
  · have hd : decide (i + t.size ≤ s.size) = false := by simp [hle]
    go_enter Tryz.func37, Tryz.ntmps37
    go_wp2
    go_ret
    exact ⟨ret_bool (by rw [atB, hd, Bool.false_and]), rfl⟩

theorem atB_iff (s : ByteArray) (i : Nat) (t : List UInt8) : atB s i ⟨t.toArray⟩ = true ↔ i + t.length ≤ s.size ∧ (s.data.toList.drop i).take t.length = t := by
  have hsz : (⟨t.toArray⟩ : ByteArray).size = t.length := by simp [ByteArray.size]
  unfold atB
  rw [hsz, Bool.and_eq_true, decide_eq_true_iff]
  refine and_congr_right fun h => ?_
  rw [beq_iff_eq]
  have he : (s.extract i (i + t.length)).data.toList = (s.data.toList.drop i).take t.length := by
    rw [ByteArray.data_extract, Array.toList_extract]
    simp
  rw [he]

theorem bt_get (l : List UInt8) (i : Nat) (h : i < l.length) : bt l i = (l[i]).toNat := by simp [bt, h]

theorem bt_inj (l : List UInt8) (i : Nat) (h : i < l.length) (c : UInt8) (e : bt l i = (c.toNat : Int)) : l[i] = c := by
  rw [bt_get l i h] at e
  exact UInt8.toNat_inj.1 (by omega)

theorem take_one (l : List UInt8) (i : Nat) (h : i < l.length) : (l.drop i).take 1 = [l[i]] := by
  rw [List.drop_eq_getElem_cons h]; rfl

theorem atB_one (s : ByteArray) (i : Nat) (c : UInt8) : atB s i ⟨#[c]⟩ = (decide (i < s.size) && (bt s.data.toList i == (c.toNat : Int))) := by
  rw [Bool.eq_iff_iff, atB_iff s i [c], Bool.and_eq_true, decide_eq_true_iff, beq_iff_eq]
  have hl : s.data.toList.length = s.size := by simp
  constructor
  · rintro ⟨h1, h2⟩
    simp only [List.length_singleton] at h1 h2
    have hi : i < s.data.toList.length := by omega
    rw [take_one _ _ hi] at h2
    refine ⟨by omega, ?_⟩
    rw [bt_get _ _ hi, List.head_eq_of_cons_eq h2]
  · rintro ⟨h1, h2⟩
    have hi : i < s.data.toList.length := by omega
    refine ⟨by simp only [List.length_singleton]; omega, ?_⟩
    simp only [List.length_singleton]
    rw [take_one _ _ hi]
    rw [bt_inj _ _ hi c h2]

theorem atB_two (s : ByteArray) (i : Nat) (c d : UInt8) : atB s i ⟨#[c, d]⟩ = (decide (i + 1 < s.size) && ((bt s.data.toList i == (c.toNat : Int)) && (bt s.data.toList (i + 1) == (d.toNat : Int)))) := by
  rw [Bool.eq_iff_iff, atB_iff s i [c, d], Bool.and_eq_true, Bool.and_eq_true, decide_eq_true_iff, beq_iff_eq, beq_iff_eq]
  have hl : s.data.toList.length = s.size := by simp
  have h2t : ∀ (h : i + 1 < s.data.toList.length), (s.data.toList.drop i).take 2 = [s.data.toList[i], s.data.toList[i + 1]] := by
    intro h
    rw [List.drop_eq_getElem_cons (by omega), List.drop_eq_getElem_cons h]; rfl
  constructor
  · rintro ⟨h1, h2⟩
    simp only [List.length_cons, List.length_nil, Nat.zero_add] at h1 h2
    have hi : i + 1 < s.data.toList.length := by omega
    rw [h2t hi] at h2
    simp only [List.cons.injEq, and_true] at h2
    have hi0 : i < s.data.toList.length := by omega
    exact ⟨by omega, by rw [bt_get _ _ hi0, h2.1], by rw [bt_get _ _ hi, h2.2]⟩
  · rintro ⟨h1, h2, h3⟩
    have hi : i + 1 < s.data.toList.length := by omega
    have hi0 : i < s.data.toList.length := by omega
    refine ⟨by simp only [List.length_cons, List.length_nil]; omega, ?_⟩
    simp only [List.length_cons, List.length_nil, Nat.zero_add]
    rw [h2t hi]
    rw [bt_inj _ _ hi0 c h2, bt_inj _ _ hi d h3]

set_option maxRecDepth 100000 in
set_option maxHeartbeats 400000 in
theorem rindent_any (s : ByteArray) (w : World) (hs : s.size ≤ 1099511627776) :
    Calls Tryz.prog 22 #[.string s] w fun e w' => e = .returned (.int .i64 (indentL s.data.toList : Nat)) ∧ w = w' := by
  have hlen : s.data.toList.length = s.size := by simp
  have HL := Lib.hid hlen
  have HS := Lib.hid hs
  clear hlen hs
  go_enter Tryz.func22, Tryz.ntmps22
  go_wp2
  go_loopw [3] (fun n wr => ∃ k : Nat, k ≤ 4 ∧ n = .int .i64 k ∧ indN s.data.toList 4 0 = indN s.data.toList (4 - k) k ∧ wr = w) (fun n _ => 4 - (intOf n).toNat)
  case atStart => exact ⟨0, by omega, rfl, rfl, rfl⟩
  case round =>
    obtain ⟨k, hk, rfl, hrest, rfl⟩ := hrel
    have HR := Lib.hid hrest
    clear hrest
    have A9 := Lib.hid (at_any s ⟨#[9]⟩ k wr HS.out (by decide) (by omega))
    have A32 := Lib.hid (at_any s ⟨#[32]⟩ k wr HS.out (by decide) (by omega))
    by_cases h4 : k < 4
    · by_cases hsz : k < s.size
      · by_cases h32 : bt s.data.toList k = 32
        · have e9 : atB s k ⟨#[9]⟩ = false := by rw [atB_one]; simp [h32]
          have e32 : atB s k ⟨#[32]⟩ = true := by rw [atB_one]; simp [h32, hsz]
          go_wp2_with fail
          refine A9.out.mono ?_
          rintro e w1 ⟨rfl, rfl⟩
          rw [e9]
          go_wp2_with fail
          refine A32.out.mono ?_
          rintro e w1 ⟨rfl, rfl⟩
          rw [e32]
          go_wp2_with fail
          go_roundw
          case rel => exact ⟨k + 1, by omega, by go_num, by rw [HR.out, indN_step _ _ h4 (by rw [HL.out]; exact hsz) h32], by first | rfl | trivial⟩
          case measure => simp [intOf]; omega
        · have hstop := Lib.hid (indN_stop s.data.toList (4 - k) k (by simp [h32]))
          have e32 : atB s k ⟨#[32]⟩ = false := by rw [atB_one]; simp [h32]
          by_cases h9 : bt s.data.toList k = 9
          · have e9 : atB s k ⟨#[9]⟩ = true := by rw [atB_one]; simp [h9, hsz]
            go_wp2_with fail
            refine A9.out.mono ?_
            rintro e w1 ⟨rfl, rfl⟩
            rw [e9]
            go_wp2_with fail
            go_ret
            exact ⟨ret_int (by rw [indentL, HR.out, hstop.out, indK, if_pos ⟨h4, by rw [HL.out]; exact hsz, h9⟩]; rfl), rfl⟩
          · have e9 : atB s k ⟨#[9]⟩ = false := by rw [atB_one]; simp [h9]
            go_wp2_with fail
            refine A9.out.mono ?_
            rintro e w1 ⟨rfl, rfl⟩
            rw [e9]
            go_wp2_with fail
            refine A32.out.mono ?_
            rintro e w1 ⟨rfl, rfl⟩
            rw [e32]
            go_wp2_with fail
            go_ret
            exact ⟨ret_int (by rw [indentL, HR.out, hstop.out, indK, if_neg (by simp [h9])]), rfl⟩
      · have hstop := Lib.hid (indN_stop s.data.toList (4 - k) k (by rw [HL.out]; simp [hsz]))
        have e9 : atB s k ⟨#[9]⟩ = false := by rw [atB_one]; simp [hsz]
        have e32 : atB s k ⟨#[32]⟩ = false := by rw [atB_one]; simp [hsz]
        go_wp2_with fail
        refine A9.out.mono ?_
        rintro e w1 ⟨rfl, rfl⟩
        rw [e9]
        go_wp2_with fail
        refine A32.out.mono ?_
        rintro e w1 ⟨rfl, rfl⟩
        rw [e32]
        go_wp2_with fail
        go_ret
        exact ⟨ret_int (by rw [indentL, HR.out, hstop.out, indK, if_neg (by rw [HL.out]; simp [hsz])]), rfl⟩
    · have hstop := Lib.hid (indN_stop s.data.toList (4 - k) k (by simp [h4]))
      obtain rfl : k = 4 := by omega
      go_wp2_with fail
      go_ret
      exact ⟨ret_int (by rw [indentL, HR.out, hstop.out, indK, if_neg (by omega)]; rfl), rfl⟩

theorem trimL_snoc (t : List UInt8) (x : UInt8) : trimL (t ++ [x]) = if x = 32 ∨ x = 9 ∨ x = 13 ∨ x = 10 then trimL t else t ++ [x] := by
  unfold trimL Lib.trimRightS
  rw [List.reverse_append, List.reverse_singleton, List.singleton_append, List.dropWhile_cons]
  by_cases h : x = 32 ∨ x = 9 ∨ x = 13 ∨ x = 10
  · rw [if_pos h, if_pos (by rcases h with rfl | rfl | rfl | rfl <;> decide)]
  · rw [if_neg h, if_neg (by intro hc; exact h (by simpa using hc))]
    simp

theorem bt_append_right0 (a b : List UInt8) (x : UInt8) : bt (a ++ x :: b) a.length = x.toNat := by
  unfold bt
  rw [List.getD_eq_getElem?_getD, List.getElem?_append_right (Nat.le_refl _)]; simp

set_option maxRecDepth 100000 in
set_option maxHeartbeats 400000 in
theorem rtrim_any (s : ByteArray) (w : World) (hs : s.size ≤ 1099511627776) :
    Calls Tryz.prog 19 #[.string s] w fun e w' => e = .returned (.string ⟨(trimL s.data.toList).toArray⟩) ∧ w = w' := by
  have HS := Lib.hid hs
  clear hs
  go_enter Tryz.func19, Tryz.ntmps19
  go_wp2
  go_loopw [0] (fun v wr => ∃ t : ByteArray, v = .string t ∧ t.size ≤ s.size ∧ trimL t.data.toList = trimL s.data.toList ∧ wr = w) (fun v _ => match v with | .string t => t.size | _ => 0)
  case atStart => exact ⟨s, rfl, Nat.le_refl _, rfl, rfl⟩
  case round =>
    obtain ⟨t, rfl, hts, hcut, rfl⟩ := hrel
    have HC := Lib.hid hcut
    have ht1 : (t.size : Int) ≤ 1099511627776 := by have := HS.out; omega
    clear hcut
    by_cases hpos : 0 < t.size
    · obtain ⟨p, x, hpx, hex, hsz⟩ := snoc_of hpos
      have hgt : (0 : Int) < (t.size : Int) := by omega
      have hx0 : t.size - 1 < t.size := by omega
      have hb := bt_str hx0
      have hbx : bt t.data.toList (t.size - 1) = (x.toNat : Int) := by
        rw [hpx, hsz]
        have := bt_append_right0 p [] x
        simpa using this
      have HPX := Lib.hid hpx
      have HEX := Lib.hid hex
      have HSZ := Lib.hid hsz
      clear hpx hex hsz
      by_cases hx : x = 32
      · have f : ((x.toNat : Int) == 32) = true := by rw [hx]; rfl
        go_wp2
        go_roundw
        case rel =>
          have he : t.extract 0 (t.size - 1) = ⟨p.toArray⟩ := HEX.out
          refine ⟨t.extract 0 (t.size - 1), rfl, ?_, ?_, by first | rfl | trivial⟩
          · rw [he]; have := HSZ.out; show p.toArray.size ≤ s.size; rw [List.size_toArray]; omega
          · rw [he, ← HC.out, HPX.out, trimL_snoc, if_pos (by simp [hx])]
        case measure =>
          have he : t.extract 0 (t.size - 1) = ⟨p.toArray⟩ := HEX.out
          simp only [he]
          have := HSZ.out
          show p.toArray.size < t.size
          rw [List.size_toArray]; omega
      · have h32 := Lib.hid hx
        have f32 : ((x.toNat : Int) == 32) = false := by rw [beq_eq_false_iff_ne]; exact fun e => hx (UInt8.toNat_inj.1 (by simp; omega))
        clear hx
        by_cases hx : x = 9
        · have f : ((x.toNat : Int) == 9) = true := by rw [hx]; rfl
          go_wp2
          go_roundw
          case rel =>
            have he : t.extract 0 (t.size - 1) = ⟨p.toArray⟩ := HEX.out
            refine ⟨t.extract 0 (t.size - 1), rfl, ?_, ?_, by first | rfl | trivial⟩
            · rw [he]; have := HSZ.out; show p.toArray.size ≤ s.size; rw [List.size_toArray]; omega
            · rw [he, ← HC.out, HPX.out, trimL_snoc, if_pos (by simp [hx])]
          case measure =>
            have he : t.extract 0 (t.size - 1) = ⟨p.toArray⟩ := HEX.out
            simp only [he]
            have := HSZ.out
            show p.toArray.size < t.size
            rw [List.size_toArray]; omega
        · have h9 := Lib.hid hx
          have f9 : ((x.toNat : Int) == 9) = false := by rw [beq_eq_false_iff_ne]; exact fun e => hx (UInt8.toNat_inj.1 (by simp; omega))
          clear hx
          by_cases hx : x = 10
          · have f : ((x.toNat : Int) == 10) = true := by rw [hx]; rfl
            go_wp2
            go_roundw
            case rel =>
              have he : t.extract 0 (t.size - 1) = ⟨p.toArray⟩ := HEX.out
              refine ⟨t.extract 0 (t.size - 1), rfl, ?_, ?_, by first | rfl | trivial⟩
              · rw [he]; have := HSZ.out; show p.toArray.size ≤ s.size; rw [List.size_toArray]; omega
              · rw [he, ← HC.out, HPX.out, trimL_snoc, if_pos (by simp [hx])]
            case measure =>
              have he : t.extract 0 (t.size - 1) = ⟨p.toArray⟩ := HEX.out
              simp only [he]
              have := HSZ.out
              show p.toArray.size < t.size
              rw [List.size_toArray]; omega
          · have h10 := Lib.hid hx
            have f10 : ((x.toNat : Int) == 10) = false := by rw [beq_eq_false_iff_ne]; exact fun e => hx (UInt8.toNat_inj.1 (by simp; omega))
            clear hx
            by_cases hx : x = 13
            · have f : ((x.toNat : Int) == 13) = true := by rw [hx]; rfl
              go_wp2
              go_roundw
              case rel =>
                have he : t.extract 0 (t.size - 1) = ⟨p.toArray⟩ := HEX.out
                refine ⟨t.extract 0 (t.size - 1), rfl, ?_, ?_, by first | rfl | trivial⟩
                · rw [he]; have := HSZ.out; show p.toArray.size ≤ s.size; rw [List.size_toArray]; omega
                · rw [he, ← HC.out, HPX.out, trimL_snoc, if_pos (by simp [hx])]
              case measure =>
                have he : t.extract 0 (t.size - 1) = ⟨p.toArray⟩ := HEX.out
                simp only [he]
                have := HSZ.out
                show p.toArray.size < t.size
                rw [List.size_toArray]; omega
            · have h13 := Lib.hid hx
              have f13 : ((x.toNat : Int) == 13) = false := by rw [beq_eq_false_iff_ne]; exact fun e => hx (UInt8.toNat_inj.1 (by simp; omega))
              clear hx
              go_wp2
              go_ret
              refine ⟨ret_str ?_, rfl⟩
              rw [← HC.out, HPX.out, trimL_snoc, if_neg (by simp [h32.out, h9.out, h10.out, h13.out]), ← HPX.out]
    · have h0 : t.size = 0 := by omega
      have hz : decide ((0 : Int) < (t.size : Int)) = false := by simp [h0]
      go_wp2
      go_ret
      refine ⟨ret_str ?_, rfl⟩
      rw [← HC.out]
      have : t.data.toList = [] := List.eq_nil_of_length_eq_zero (by simpa using h0)
      rw [this]
      apply ByteArray.ext; apply Array.ext'
      rw [this]; decide
end Go.Proofs.YtpohopmggpiomaaGreatDoor
