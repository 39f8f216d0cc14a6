/-
  mark: cutRight, closes, opens, refers.
-/
import Derived.Test.YtpohopmggpiomaaDoorMarkS
import Derived.Lib.TrimUEq
import Derived.Lib.TrimAscii
import Derived.Deep.RegionWith
namespace Go.Proofs.YtpohopmggpiomaaDoor
open Go.RowKit


theorem decodeL_low (l : List UInt8) (h : (Lib.decodeL l).1 < 128) (hl : 0 < l.length) : bt l 0 = (Lib.decodeL l).1 ∧ (Lib.decodeL l).2 = 1 := by
  have hs : 0 < (⟨l.toArray⟩ : ByteArray).size := by simpa [ByteArray.size] using hl
  unfold Lib.decodeL at *
  by_cases ha : ((⟨l.toArray⟩ : ByteArray)[0]'hs).toNat < 128
  · have := decode_low (s := ⟨l.toArray⟩) hs (by rw [← bt_str hs]; omega)
    have hb := bt_range l 0
    constructor
    · rw [this.1]; show bt l 0 = ((bt l 0).toNat : Int); omega
    · exact this.2
  · have := (decode_high ⟨l.toArray⟩ 0 hs (by omega)).1
    omega

theorem decodeLast_high (t : List UInt8) (x : UInt8) (hx : 128 ≤ x.toNat) : 128 ≤ (Lib.decodeLastL (t ++ [x])).1 := by
  have hne : t ++ [x] ≠ [] := by simp
  have hlast : ((t ++ [x]).getD ((t ++ [x]).length - 1) 0) = x := by simp
  unfold Lib.decodeLastL
  rw [if_neg hne, if_neg (by rw [hlast]; omega)]
  simp only
  split
  · rename_i hd
    rcases Nat.lt_or_ge (Lib.decodeL ((t ++ [x]).drop (Lib.lastStart (t ++ [x])))).1 128 with h | h
    · have hl : 0 < ((t ++ [x]).drop (Lib.lastStart (t ++ [x]))).length := by
        have := Lib.decodeL_width ((t ++ [x]).drop (Lib.lastStart (t ++ [x])))
        simp only [List.length_drop]; omega
      have := decodeL_low _ h hl
      rw [this.2] at hd
      have hb : bt ((t ++ [x]).drop (Lib.lastStart (t ++ [x]))) 0 = x.toNat := by
        have e : Lib.lastStart (t ++ [x]) = t.length := by simp at hd; omega
        rw [e]; simp [bt]
      omega
    · exact h
  · show 128 ≤ Utf8.runeError
    decide

theorem cutR_snoc (t : List UInt8) (x c : UInt8) : cutR (t ++ [x]) c = if x = c then cutR t c else t ++ [x] := by
  unfold cutR
  by_cases h : x = c
  · simp [h]
  · simp [h]

theorem snoc_of {s : ByteArray} (h : 0 < s.size) : ∃ t x, s.data.toList = t ++ [x] ∧ s.extract 0 (s.size - 1) = ⟨t.toArray⟩ ∧ s.size = t.length + 1 := by
  have hl : s.data.toList.length = s.size := by simp
  have hne : s.data.toList ≠ [] := by intro e; rw [e] at hl; simp at hl; omega
  refine ⟨s.data.toList.dropLast, s.data.toList.getLast hne, (List.dropLast_concat_getLast hne).symm, ?_, by simp; omega⟩
  apply ByteArray.ext; apply Array.ext'
  rw [ByteArray.data_extract, Array.toList_extract]
  simp [List.dropLast_eq_take]

set_option maxRecDepth 100000 in
set_option maxHeartbeats 400000 in
theorem cutRight_any (s : ByteArray) (c : UInt8) (w : World) (hE : Env w) (hs : s.size ≤ maxLen) (hc : c.toNat < 128) :
    Calls Tryd.prog 30 #[.string s, .string ⟨#[c]⟩] w fun e w' => e = .returned (.string ⟨(cutR s.data.toList c).toArray⟩) ∧ Only [] w w' := by
  have HE := Lib.hid hE
  have HS := Lib.hid hs
  clear hs hE
  go_enter Tryd.func30, Tryd.ntmps30
  go_wp2
  go_loopw [0, 5, 6, 7] (fun v _ _ _ wr => ∃ t : ByteArray, v = .string t ∧ t.size ≤ s.size ∧ cutR t.data.toList c = cutR s.data.toList c ∧ Only [] w wr) (fun v _ _ _ _ => match v with | .string t => t.size | _ => 0)
  case atStart => exact ⟨s, rfl, Nat.le_refl _, rfl, Only.refl _ _⟩
  case round =>
    obtain ⟨t, rfl, hts, hcut, ho⟩ := hrel
    have HC := Lib.hid hcut
    have HO := Lib.hid ho
    have ht1 : (t.size : Int) ≤ 9223372036854775807 := by have := HS.out; unfold maxLen at this; omega
    clear hcut ho
    by_cases hpos : 0 < t.size
    · obtain ⟨p, x, hpx, hex, hsz⟩ := snoc_of hpos
      have hgt : (0 : Int) < (t.size : Int) := by omega
      have HPX := Lib.hid hpx
      have HEX := Lib.hid hex
      have HSZ := Lib.hid hsz
      clear hpx hex hsz
      by_cases hx : x = c
      · have hdl : Lib.decodeLastL t.data.toList = (c.toNat, 1) := by rw [HPX.out, hx]; exact Lib.decodeLastL_ascii p c hc
        go_wp2_with (go_at_call 43; refine (Tryd.utf8_DecodeLastRuneInString t _ (by omega) (HE.out.keep0 HO.out).1).mono ?_; rintro e w1 ⟨rfl, hb1⟩; have HB1 := Lib.hid hb1; clear hb1; have n1 : ∀ ty, (Instr.next (.pointer (some ⟨w1.heap.size, 0, none⟩)) true ty).run Tryd.prog (w1.iter ⟨#[c]⟩ 0) = .ok (.tuple #[.bool true, .int .i64 0, .int .i32 (c.toNat : Int)]) (w1.iter ⟨#[c]⟩ 1) := fun ty => run_next_ascii w1 ⟨#[c]⟩ 0 ty (by show 0 < 1; omega) hc; have n2 : ∀ ty, (Instr.next (.pointer (some ⟨w1.heap.size, 0, none⟩)) true ty).run Tryd.prog (w1.iter ⟨#[c]⟩ 1) = _ := fun ty => run_next_end w1 ⟨#[c]⟩ 1 ty (by show ¬ 1 < 1; omega))
        refine wp_loop_rounds 2 ?_
        rw [rounds_succ]
        go_wp2
        rw [rounds_succ]
        go_wp2
        go_roundw
        case rel =>
          have he : t.extract 0 (t.size - 1) = ⟨p.toArray⟩ := HEX.out
          refine ⟨t.extract 0 (t.size - 1), rfl, ?_, ?_, HO.out.trans ((Only.of_below HB1.out (Nat.le_refl _)).alloc _)⟩
          · rw [he]; have := HSZ.out; show p.toArray.size ≤ s.size; rw [List.size_toArray]; omega
          · rw [he, ← HC.out, HPX.out, cutR_snoc, if_pos hx]
        case measure =>
          have he : t.extract 0 (t.size - 1) = ⟨p.toArray⟩ := HEX.out
          simp only [he]
          have := HSZ.out
          show p.toArray.size < t.size
          rw [List.size_toArray]; omega
      · have hdl : ((((Lib.decodeLastL t.data.toList).1 : Nat) : Int) == (c.toNat : Int)) = false := by
          rw [HPX.out]
          simp only [beq_eq_false_iff_ne]
          intro h
          by_cases ha : x.toNat < 128
          · rw [Lib.decodeLastL_ascii p x ha] at h
            exact hx (UInt8.toNat_inj.1 (by simp at h; omega))
          · have := decodeLast_high p x (by omega); omega
        go_wp2_with (go_at_call 43; refine (Tryd.utf8_DecodeLastRuneInString t _ (by omega) (HE.out.keep0 HO.out).1).mono ?_; rintro e w1 ⟨rfl, hb1⟩; have HB1 := Lib.hid hb1; clear hb1; have n1 : ∀ ty, (Instr.next (.pointer (some ⟨w1.heap.size, 0, none⟩)) true ty).run Tryd.prog (w1.iter ⟨#[c]⟩ 0) = .ok (.tuple #[.bool true, .int .i64 0, .int .i32 (c.toNat : Int)]) (w1.iter ⟨#[c]⟩ 1) := fun ty => run_next_ascii w1 ⟨#[c]⟩ 0 ty (by show 0 < 1; omega) hc; have n2 : ∀ ty, (Instr.next (.pointer (some ⟨w1.heap.size, 0, none⟩)) true ty).run Tryd.prog (w1.iter ⟨#[c]⟩ 1) = _ := fun ty => run_next_end w1 ⟨#[c]⟩ 1 ty (by show ¬ 1 < 1; omega))
        refine wp_loop_rounds 2 ?_
        rw [rounds_succ]
        go_wp2
        rw [rounds_succ]
        go_wp2
        go_ret
        refine ⟨ret_str ?_, HO.out.trans ((Only.of_below HB1.out (Nat.le_refl _)).alloc _)⟩
        rw [← HC.out, HPX.out, cutR_snoc, if_neg hx, ← HPX.out]
    · have h0 : t.size = 0 := by omega
      have hz : decide ((0 : Int) < (t.size : Int)) = false := by simp [h0]
      have H0 := Lib.hid h0
      clear h0
      go_wp2
      go_ret
      refine ⟨ret_str ?_, HO.out⟩
      rw [← HC.out]
      have : t.data.toList = [] := List.eq_nil_of_length_eq_zero (by simpa using H0.out)
      rw [this]
      apply ByteArray.ext; apply Array.ext'
      simp [this, cutR]
/-- Does a line close a fence of n of the sign c? -/
def closesL (l : List UInt8) (c : UInt8) (n : Nat) : Bool := decide (indentL l ≤ 3) && (decide (n ≤ (cutL (trimL l) 32).length) && (cutR (cutL (cutL (trimL l) 32) c) c).isEmpty)

theorem sv_len (l : List UInt8) : (⟨l.toArray⟩ : ByteArray).size = l.length := by simp [ByteArray.size]

theorem cutL_le (l : List UInt8) (c : UInt8) : (cutL l c).length ≤ l.length := by
  unfold cutL; exact (List.dropWhile_sublist _).length_le

theorem trimL_le (l : List UInt8) : (trimL l).length ≤ l.length := by
  unfold trimL Lib.trimRightS
  have := (List.dropWhile_sublist ([32, 9, 13, 10].contains · : UInt8 → Bool) (l := l.reverse)).length_le
  simpa using this

theorem fence_head (c : UInt8) (n : Nat) (h : 0 < n) : (⟨Array.replicate n c⟩ : ByteArray).extract 0 1 = ⟨#[c]⟩ := by
  apply ByteArray.ext; apply Array.ext'
  rw [ByteArray.data_extract, Array.toList_extract]
  obtain ⟨m, rfl⟩ : ∃ m, n = m + 1 := ⟨n - 1, by omega⟩
  simp [List.replicate_succ]

set_option maxRecDepth 100000 in
set_option maxHeartbeats 400000 in
theorem closes_any (s : ByteArray) (c : UInt8) (n : Nat) (w : World) (hE : Env w) (hs : s.size ≤ 1099511627776) (hc : c.toNat < 128) (hn : 0 < n) (hn2 : n ≤ 1099511627776) :
    Calls Tryd.prog 23 #[.string s, .string ⟨Array.replicate n c⟩] w fun e w' => e = .returned (.bool (closesL s.data.toList c n)) ∧ Only [] w w' := by
  have HE := Lib.hid hE
  have HS := Lib.hid hs
  have HN := Lib.hid hn
  have HN2 := Lib.hid hn2
  have HF := fence_head c n hn
  have hfl : (⟨Array.replicate n c⟩ : ByteArray).size = n := by show (Array.replicate n c).size = n; simp
  clear hs hE hn2
  by_cases hi : indentL s.data.toList ≤ 3
  · have hi' : (indentL s.data.toList : Int) ≤ 3 := by omega
    go_enter Tryd.func23, Tryd.ntmps23
    go_wp2_with (first | (go_at_call 24; refine (indent_any s _ (by have := HS.out; unfold maxLen; omega)).mono ?_; rintro e w1 ⟨rfl, rfl⟩) | (go_at_call 22; refine (trim_any s _ (by have := HS.out; unfold maxLen; omega)).mono ?_; rintro e w2 ⟨rfl, ho2⟩; have HO2 := Lib.hid ho2; clear ho2) | (go_at_call 29; refine (cutLeft_any ⟨(trimL s.data.toList).toArray⟩ 32 _ (by have := HS.out; have := trimL_le s.data.toList; rw [sv_len]; simp at this; unfold maxLen; omega) (by decide)).mono ?_; rintro e w3 ⟨rfl, ho3⟩; have HO3 := Lib.hid (HO2.out.trans ho3); clear ho3))
    have htl : (cutL (trimL s.data.toList) 32).length ≤ 1099511627776 := by have := HS.out; have := trimL_le s.data.toList; have := cutL_le (trimL s.data.toList) 32; simp at *; omega
    generalize hT : cutL (trimL s.data.toList) 32 = t at htl
    have hts := sv_len t
    have hts2 := sv_len (cutL t c)
    have HTL := Lib.hid htl
    have HT := Lib.hid hT
    clear htl hT
    by_cases hle : n ≤ t.length
    · refine wp_region_only w [] (by kernel_rfl) (by kernel_rfl) HO3.out ?_
      repeat (first | go_big_quiet_skip | (go_big_quiet_want; go_big_quiet_op; first | go_big_quiet_on | (refine ⟨_, fun _ _ => rfl, ?_⟩; go_big_quiet_on) | go_big_quiet_call ((intro hw; first | (go_at_call 29; refine (cutLeft_any ⟨t.toArray⟩ c _ (by have := HTL.out; rw [sv_len]; unfold maxLen; omega) hc).mono ?_; rintro e w4 ⟨rfl, ho4⟩; exact ⟨rfl, hw.trans ho4⟩) | (go_at_call 30; refine (cutRight_any ⟨(cutL t c).toArray⟩ c _ (HE.out.keep0 hw) (by have := HTL.out; have := cutL_le t c; rw [sv_len]; unfold maxLen; omega) hc).mono ?_; rintro e w5 ⟨rfl, ho5⟩; exact ⟨rfl, hw.trans ho5⟩)))))
      refine wpQuiet_nil ?_
      intro w6 ho6
      go_wp2
      go_ret
      refine ⟨ret_bool ?_, ho6⟩
      rw [closesL, HT.out, decide_eq_true hi, decide_eq_true hle]; rfl
    · have hle' : decide (n ≤ t.length) = false := by simpa using hle
      refine wp_region_only w [] (by kernel_rfl) (by kernel_rfl) HO3.out ?_
      repeat (first | go_big_quiet_skip | (go_big_quiet_want; go_big_quiet_op; first | go_big_quiet_on | (refine ⟨_, fun _ _ => rfl, ?_⟩; go_big_quiet_on)))
      refine wpQuiet_nil ?_
      intro w6 ho6
      go_wp2
      go_ret
      refine ⟨ret_bool ?_, ho6⟩
      rw [closesL, HT.out, decide_eq_true hi, hle']; rfl
  · have hi' : ¬ ((indentL s.data.toList : Int) ≤ 3) := by omega
    go_enter Tryd.func23, Tryd.ntmps23
    go_wp2_with (go_at_call 24; refine (indent_any s _ (by have := HS.out; unfold maxLen; omega)).mono ?_; rintro e w1 ⟨rfl, rfl⟩)
    go_ret
    refine ⟨ret_bool ?_, Only.refl _ _⟩
    rw [closesL, decide_eq_false hi]; rfl

theorem Env.drop {w : World} : Env w → True := fun _ => trivial

theorem extract_drop (s : ByteArray) (k : Nat) : s.extract k s.size = ⟨(s.data.toList.drop k).toArray⟩ := by
  apply ByteArray.ext; apply Array.ext'
  rw [ByteArray.data_extract, Array.toList_extract]
  simp [List.take_of_length_le]

theorem indentL_le (l : List UInt8) : indentL l ≤ l.length ∨ 3 < indentL l := by
  have h : ∀ d k, k ≤ l.length → k ≤ 4 → indN l d k ≤ l.length ∧ indN l d k ≤ 4 := by
    intro d
    induction d with
    | zero => intro k h1 h2; exact ⟨h1, h2⟩
    | succ d ih =>
      intro k h1 h2
      unfold indN
      split
      · exact ih _ (by omega) (by omega)
      · exact ⟨h1, h2⟩
  have := h 4 0 (by omega) (by omega)
  unfold indentL indK
  split
  · right; omega
  · left; omega

/-- Is a line a reference's definition? -/
def refersL (l : List UInt8) : Bool :=
  decide (indentL l ≤ 3) && (Lib.hasPrefix (l.drop (indentL l)) [91] && (decide (Lib.indexByte l 93 > (indentL l : Int) + 1) && Lib.hasPrefix (l.drop (Lib.indexByte l 93).toNat) [93, 58]))

theorem indexByte_le (l : List UInt8) (c : UInt8) : Lib.indexByte l c < l.length ∧ -1 ≤ Lib.indexByte l c := by
  induction l with
  | nil => simp [Lib.indexByte]
  | cons x l ih =>
    simp only [Lib.indexByte]
    split
    · simp
    · split <;> simp <;> omega

set_option maxRecDepth 100000 in
set_option maxHeartbeats 400000 in
theorem refers_any (s : ByteArray) (w : World) (hs : s.size ≤ 1099511627776) :
    Calls Tryd.prog 26 #[.string s] w fun e w' => e = .returned (.bool (refersL s.data.toList)) ∧ Only [] w w' := by
  have hlen : s.data.toList.length = s.size := by simp
  have hil := indentL_le s.data.toList
  have hib := indexByte_le s.data.toList 93
  rw [hlen] at hil hib
  have hs1 : (s.size : Int) ≤ 1099511627776 := by omega
  have HS := Lib.hid hs
  clear hlen hs
  by_cases hi : indentL s.data.toList ≤ 3
  · have hi' : (indentL s.data.toList : Int) ≤ 3 := by omega
    have hil' : indentL s.data.toList ≤ s.size := by omega
    have hx : s.extract (indentL s.data.toList) s.size = ⟨(s.data.toList.drop (indentL s.data.toList)).toArray⟩ := extract_drop _ _
    clear hil
    cases hp : Lib.hasPrefix (s.data.toList.drop (indentL s.data.toList)) [91] with
    | false =>
      go_enter Tryd.func26, Tryd.ntmps26
      go_wp2_with (first | (go_at_call 24; refine (indent_any s _ (by have := HS.out; unfold maxLen; omega)).mono ?_; rintro e w1 ⟨rfl, rfl⟩) | (go_at_call 32; refine (Tryd.strings_HasPrefix ⟨(s.data.toList.drop (indentL s.data.toList)).toArray⟩ ⟨#[91]⟩ _).mono ?_; rintro e w2 ⟨rfl, rfl⟩))
      go_ret
      exact ⟨ret_bool (by rw [refersL, hp]; simp), Only.refl _ _⟩
    | true =>
      by_cases hgt : Lib.indexByte s.data.toList 93 > (indentL s.data.toList : Int) + 1
      · obtain ⟨j, hj⟩ : ∃ j : Nat, Lib.indexByte s.data.toList 93 = (j : Int) := ⟨(Lib.indexByte s.data.toList 93).toNat, by omega⟩
        rw [hj] at hgt hib
        have hjs : j ≤ s.size := by omega
        have hjx : s.extract j s.size = ⟨(s.data.toList.drop j).toArray⟩ := extract_drop _ _
        have HJ := Lib.hid hj
        have hgt' : decide ((indentL s.data.toList : Int) + 1 < (j : Int)) = true := by simpa using hgt
        clear hj hib
        go_enter Tryd.func26, Tryd.ntmps26
        go_wp2_with (first | (go_at_call 24; refine (indent_any s _ (by have := HS.out; unfold maxLen; omega)).mono ?_; rintro e w1 ⟨rfl, rfl⟩) | (go_at_call 32; refine (Tryd.strings_HasPrefix ⟨(s.data.toList.drop (indentL s.data.toList)).toArray⟩ ⟨#[91]⟩ _).mono ?_; rintro e w2 ⟨rfl, rfl⟩) | (go_at_call 32; refine (Tryd.strings_HasPrefix ⟨(s.data.toList.drop j).toArray⟩ ⟨#[93, 58]⟩ _).mono ?_; rintro e w2 ⟨rfl, rfl⟩) | (go_at_call 33; refine (Tryd.strings_IndexByte s 93 _).mono ?_; rintro e w3 ⟨rfl, rfl⟩; rw [show ((93 : Int).toNat.toUInt8) = (93 : UInt8) from rfl, HJ.out]))
        go_ret
        refine ⟨ret_bool ?_, Only.refl _ _⟩
        rw [refersL, hp, HJ.out, decide_eq_true hi, decide_eq_true hgt]
        simp
      · have hgt' : decide ((indentL s.data.toList : Int) + 1 < Lib.indexByte s.data.toList 93) = false := by simpa using hgt
        go_enter Tryd.func26, Tryd.ntmps26
        go_wp2_with (first | (go_at_call 24; refine (indent_any s _ (by have := HS.out; unfold maxLen; omega)).mono ?_; rintro e w1 ⟨rfl, rfl⟩) | (go_at_call 32; refine (Tryd.strings_HasPrefix ⟨(s.data.toList.drop (indentL s.data.toList)).toArray⟩ ⟨#[91]⟩ _).mono ?_; rintro e w2 ⟨rfl, rfl⟩) | (go_at_call 33; refine (Tryd.strings_IndexByte s 93 _).mono ?_; rintro e w3 ⟨rfl, rfl⟩; rw [show ((93 : Int).toNat.toUInt8) = (93 : UInt8) from rfl]))
        go_ret
        refine ⟨ret_bool ?_, Only.refl _ _⟩
        rw [refersL, show decide (Lib.indexByte s.data.toList 93 > (indentL s.data.toList : Int) + 1) = false from hgt']
        simp
  · have hi' : ¬ ((indentL s.data.toList : Int) ≤ 3) := by omega
    go_enter Tryd.func26, Tryd.ntmps26
    go_wp2_with (go_at_call 24; refine (indent_any s _ (by have := HS.out; unfold maxLen; omega)).mono ?_; rintro e w1 ⟨rfl, rfl⟩)
    go_ret
    exact ⟨ret_bool (by rw [refersL, decide_eq_false hi]; rfl), Only.refl _ _⟩
/-- The fence that a text begins with: of which sign, how often. -/
def fenceAt (t : List UInt8) : Option (UInt8 × Nat) :=
  if 3 ≤ t.length - (cutL t 96).length ∧ ¬ 0 ≤ Lib.indexByte (cutL t 96) 96 then some (96, t.length - (cutL t 96).length)
  else if 3 ≤ t.length - (cutL t 126).length then some (126, t.length - (cutL t 126).length) else none
/-- The fence that a line opens. -/
def opensL (l : List UInt8) : Option (UInt8 × Nat) := if indentL l ≤ 3 then fenceAt (l.drop (indentL l)) else none
/-- Its text. -/
def fenceV : Option (UInt8 × Nat) → List UInt8
  | none => []
  | some (c, k) => List.replicate k c

theorem cutL_take (t : List UInt8) (c : UInt8) : t.take (t.length - (cutL t c).length) = List.replicate (t.length - (cutL t c).length) c := by
  unfold cutL
  induction t with
  | nil => rfl
  | cons x t ih =>
    by_cases h : x = c
    · subst h
      have hle := (List.dropWhile_sublist (· == x) (l := t)).length_le
      simp only [List.dropWhile_cons, beq_self_eq_true, if_true, List.length_cons]
      rw [show t.length + 1 - (t.dropWhile (· == x)).length = (t.length - (t.dropWhile (· == x)).length) + 1 by omega, List.take_succ_cons, ih, List.replicate_succ]
    · have hx : (x == c) = false := by simpa using h
      simp [hx]

theorem extract_take (t : List UInt8) (k : Nat) : (⟨t.toArray⟩ : ByteArray).extract 0 k = ⟨(t.take k).toArray⟩ := by
  apply ByteArray.ext; apply Array.ext'
  rw [ByteArray.data_extract, Array.toList_extract]
  simp

set_option maxRecDepth 100000 in
set_option maxHeartbeats 800000 in
theorem opens_any (s : ByteArray) (w : World) (hs : s.size ≤ 1099511627776) :
    Calls Tryd.prog 25 #[.string s] w fun e w' => e = .returned (.string ⟨(fenceV (opensL s.data.toList)).toArray⟩) ∧ Only [] w w' := by
  have hlen : s.data.toList.length = s.size := by simp
  have hil := indentL_le s.data.toList
  rw [hlen] at hil
  have HS := Lib.hid hs
  by_cases hi : indentL s.data.toList ≤ 3
  · have hi' : (indentL s.data.toList : Int) ≤ 3 := by omega
    have hil' : indentL s.data.toList ≤ s.size := by omega
    have hx : s.extract (indentL s.data.toList) s.size = ⟨(s.data.toList.drop (indentL s.data.toList)).toArray⟩ := extract_drop _ _
    obtain ⟨t, ht⟩ : ∃ t, t = s.data.toList.drop (indentL s.data.toList) := ⟨_, rfl⟩
    have htl : t.length ≤ 1099511627776 := by rw [ht]; simp; omega
    rw [← ht] at hx
    have ho : opensL s.data.toList = fenceAt t := by rw [opensL, if_pos hi, ← ht]
    have HO := Lib.hid ho
    have hts := sv_len t
    have h1 := cutL_le t 96
    have h2 := cutL_le t 126
    have hs1 := sv_len (cutL t 96)
    have hs2 := sv_len (cutL t 126)
    have HTL := Lib.hid htl
    have htl' : (t.length : Int) ≤ 1099511627776 := by omega
    clear hil ht ho hlen hs htl
    go_enter Tryd.func25, Tryd.ntmps25
    go_wp2_with (go_at_call 24; refine (indent_any s _ (by have := HS.out; unfold maxLen; omega)).mono ?_; rintro e w1 ⟨rfl, rfl⟩)
    refine wp_loop_rounds 3 ?_
    rw [rounds_succ]
    have hk1 : ((t.length : Int) - ((cutL t 96).length : Int)) = ((t.length - (cutL t 96).length : Nat) : Int) := by omega
    have hk2 : ((t.length : Int) - ((cutL t 126).length : Int)) = ((t.length - (cutL t 126).length : Nat) : Int) := by omega
    have HK1 := Lib.hid hk1
    have HK2 := Lib.hid hk2
    clear hk1 hk2
    by_cases hA : 3 ≤ (t.length : Int) - ((cutL t 96).length : Int)
    · by_cases hB : 0 ≤ Lib.indexByte (cutL t 96) 96
      · go_wp2_with (first | (go_at_call 29; refine (cutLeft_any ⟨t.toArray⟩ 96 _ (by have := HTL.out; rw [sv_len]; unfold maxLen; omega) (by decide)).mono ?_; rintro e w2 ⟨rfl, ho2⟩; obtain ⟨r0, r1, r2, r3⟩ := two_blk (ho2.keep (alloc_new _ _) (by simp)); have HBL := Lib.hid (ho2.keep (alloc_new _ _) (by simp)); have HO2 : Hid (Only [] w w2) := ((Only.refl [] w).alloc _).trans ho2; clear ho2) | (go_at_call 31; refine (Tryd.strings_Contains_one ⟨(cutL t 96).toArray⟩ 96 _).mono ?_; rintro e w3 ⟨rfl, rfl⟩))
        rw [rounds_succ]
        by_cases hC : 3 ≤ (t.length : Int) - ((cutL t 126).length : Int)
        · go_wp2_with (go_at_call 29; refine (cutLeft_any ⟨t.toArray⟩ 126 _ (by have := HTL.out; rw [sv_len]; unfold maxLen; omega) (by decide)).mono ?_; rintro e w4 ⟨rfl, ho4⟩; obtain ⟨q0, q1, q2, q3⟩ := two_blk (ho4.keep HBL.out (by simp)); have HO4 : Hid (Only [] w w4) := HO2.out.trans ho4; clear ho4)
          go_ret
          refine ⟨ret_str ?_, HO4.out⟩
          rw [HO.out, fenceAt, if_neg (by omega), if_pos (by omega), extract_take, cutL_take]
          rfl
        · go_wp2_with (go_at_call 29; refine (cutLeft_any ⟨t.toArray⟩ 126 _ (by have := HTL.out; rw [sv_len]; unfold maxLen; omega) (by decide)).mono ?_; rintro e w4 ⟨rfl, ho4⟩; obtain ⟨q0, q1, q2, q3⟩ := two_blk (ho4.keep HBL.out (by simp)); have HO4 : Hid (Only [] w w4) := HO2.out.trans ho4; clear ho4)
          rw [rounds_succ]
          go_wp2
          go_ret
          refine ⟨ret_str ?_, HO4.out⟩
          rw [HO.out, fenceAt, if_neg (by omega), if_neg (by omega)]
          rfl
      · have hB' : decide (0 ≤ Lib.indexByte (cutL t 96) 96) = false := by simpa using hB
        go_wp2_with (first | (go_at_call 29; refine (cutLeft_any ⟨t.toArray⟩ 96 _ (by have := HTL.out; rw [sv_len]; unfold maxLen; omega) (by decide)).mono ?_; rintro e w2 ⟨rfl, ho2⟩; obtain ⟨r0, r1, r2, r3⟩ := two_blk (ho2.keep (alloc_new _ _) (by simp)); have HBL := Lib.hid (ho2.keep (alloc_new _ _) (by simp)); have HO2 : Hid (Only [] w w2) := ((Only.refl [] w).alloc _).trans ho2; clear ho2) | (go_at_call 31; refine (Tryd.strings_Contains_one ⟨(cutL t 96).toArray⟩ 96 _).mono ?_; rintro e w3 ⟨rfl, rfl⟩))
        go_ret
        refine ⟨ret_str ?_, HO2.out⟩
        rw [HO.out, fenceAt, if_pos (by omega), extract_take, cutL_take]
        rfl
    · go_wp2_with (first | (go_at_call 29; refine (cutLeft_any ⟨t.toArray⟩ 96 _ (by have := HTL.out; rw [sv_len]; unfold maxLen; omega) (by decide)).mono ?_; rintro e w2 ⟨rfl, ho2⟩; obtain ⟨r0, r1, r2, r3⟩ := two_blk (ho2.keep (alloc_new _ _) (by simp)); have HBL := Lib.hid (ho2.keep (alloc_new _ _) (by simp)); have HO2 : Hid (Only [] w w2) := ((Only.refl [] w).alloc _).trans ho2; clear ho2) | (go_at_call 31; refine (Tryd.strings_Contains_one ⟨(cutL t 96).toArray⟩ 96 _).mono ?_; rintro e w3 ⟨rfl, rfl⟩))
      rw [rounds_succ]
      by_cases hC : 3 ≤ (t.length : Int) - ((cutL t 126).length : Int)
      · go_wp2_with (go_at_call 29; refine (cutLeft_any ⟨t.toArray⟩ 126 _ (by have := HTL.out; rw [sv_len]; unfold maxLen; omega) (by decide)).mono ?_; rintro e w4 ⟨rfl, ho4⟩; obtain ⟨q0, q1, q2, q3⟩ := two_blk (ho4.keep HBL.out (by simp)); have HO4 : Hid (Only [] w w4) := HO2.out.trans ho4; clear ho4)
        go_ret
        refine ⟨ret_str ?_, HO4.out⟩
        rw [HO.out, fenceAt, if_neg (by omega), if_pos (by omega), extract_take, cutL_take]
        rfl
      · go_wp2_with (go_at_call 29; refine (cutLeft_any ⟨t.toArray⟩ 126 _ (by have := HTL.out; rw [sv_len]; unfold maxLen; omega) (by decide)).mono ?_; rintro e w4 ⟨rfl, ho4⟩; obtain ⟨q0, q1, q2, q3⟩ := two_blk (ho4.keep HBL.out (by simp)); have HO4 : Hid (Only [] w w4) := HO2.out.trans ho4; clear ho4)
        rw [rounds_succ]
        go_wp2
        go_ret
        refine ⟨ret_str ?_, HO4.out⟩
        rw [HO.out, fenceAt, if_neg (by omega), if_neg (by omega)]
        rfl
  · have hi' : ¬ ((indentL s.data.toList : Int) ≤ 3) := by omega
    go_enter Tryd.func25, Tryd.ntmps25
    go_wp2_with (go_at_call 24; refine (indent_any s _ (by have := HS.out; unfold maxLen; omega)).mono ?_; rintro e w1 ⟨rfl, rfl⟩)
    go_ret
    exact ⟨ret_str (by rw [opensL, if_neg hi]; rfl), Only.refl _ _⟩
end Go.Proofs.YtpohopmggpiomaaDoor
