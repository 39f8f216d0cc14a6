/-
  redpenlaw12.MarkFront: the walk.
-/
import Derived.Test.YtpohopmggpiomaaDoorLaw0
import Derived.Test.YtpohopmggpiomaaDoorPlain
namespace Go.Proofs.YtpohopmggpiomaaDoor
open Go.RowKit

/-- The lines of front matter. -/
def pieceF : Nat → List UInt8
  | 0 => [97, 58, 32, 98] | 1 => [120] | 2 => [32, 32, 121] | 3 => [45, 45, 32, 45] | _ => []

/-- What the first k numbers put together: of the first 20, with E at each line's end. -/
def frontTo (cs E : List UInt8) : Nat → List UInt8
  | 0 => [45, 45, 45] ++ E
  | k + 1 => if k < 20 then frontTo cs E k ++ (pieceF (bt cs k % 5).toNat ++ E) else frontTo cs E k

theorem pieceF_len (n : Nat) : (pieceF n).length ≤ 4 := by
  unfold pieceF; split <;> simp

theorem frontTo_len (cs E : List UInt8) (hE : E.length ≤ 3) (k : Nat) : (frontTo cs E k).length ≤ 200 := by
  have h : ∀ k, (frontTo cs E k).length ≤ 6 + 7 * k ∧ (frontTo cs E k).length ≤ 6 + 7 * 20 := by
    intro k
    induction k with
    | zero => simp [frontTo]; omega
    | succ k ih =>
      rw [frontTo]
      split
      · have := pieceF_len (bt cs k % 5).toNat
        simp only [List.length_append]; omega
      · omega
  have := (h k).2; omega

theorem front_tab (n : Nat) (h : n < 5) : ([Value.string ⟨#[97, 58, 32, 98]⟩, .string ⟨#[120]⟩, .string ⟨#[32, 32, 121]⟩, .string ⟨#[45, 45, 32, 45]⟩, .string ⟨#[]⟩] : List Value)[n]? = some (.string ⟨(pieceF n).toArray⟩) := by
  have : n = 0 ∨ n = 1 ∨ n = 2 ∨ n = 3 ∨ n = 4 := by omega
  rcases this with rfl | rfl | rfl | rfl | rfl <;> rfl

/-- What is put together for E and an end or none. -/
def frontB (cs E R : List UInt8) : List UInt8 := frontTo cs E cs.length ++ R

set_option maxRecDepth 100000 in
set_option maxHeartbeats 1000000 in
theorem front_walk_tf (cs B : List UInt8) (v : Value) (w : World) (hE : Env w) (hv : BytesV w v cs) (hB : B = frontTo cs [10] cs.length ++ [45, 45, 45, 10, 119, 111, 114, 100, 10])
    (hL : (markL P0 B).length = B.length)
    (h4 : ∀ j, j < (frontTo cs [10] cs.length).length + 4 → nth (markL P0 B) j = 4)
    (h1 : nth (markL P0 B) (B.length - 2) = 1)
    (hno : ∀ k, k < B.length → bt B k ≠ 60) :
    Calls Tryd.prog 6 #[v, .bool true, .bool false] w fun e w' => e = .returned (.bool true) ∧ Only [] w w' := by
  have HV := Lib.hid hv
  obtain ⟨p, c, rfl, hc, hm, hk⟩ := hv
  have HE := Lib.hid hE
  have HLEN := Lib.hid hL
  have H4 := Lib.hid h4
  have H1 := Lib.hid h1
  have HNO := Lib.hid hno
  have HK := Lib.hid hk
  have hlB : B.length = (frontTo cs [10] cs.length).length + 9 := by simp [hB]
  have hbv : (⟨B.toArray⟩ : ByteArray) = ⟨(frontTo cs [10] cs.length ++ [45, 45, 45, 10, 119, 111, 114, 100, 10]).toArray⟩ := by rw [hB]
  have HBV := Lib.hid hbv
  clear hbv hB
  have HLB := Lib.hid hlB
  clear hlB
  clear hE hL h4 h1 hno hk
  go_enter Tryd.func6, Tryd.ntmps6
  go_wp2_with (go_at_call 7; refine (awake_any _ HE.out).mono ?_; rintro e w1 ⟨rfl, ho1⟩; have HO1 := Lib.hid ho1; clear ho1)
  go_loopw [8, 9, 10, 22] (fun bv _ _ iv wr => ∃ k : Nat, k ≤ cs.length ∧ iv = .int .i64 k ∧ bv = .string ⟨(frontTo cs [10] k).toArray⟩ ∧ Only [] w wr) (fun _ _ _ iv _ => cs.length - (intOf iv).toNat)
  case atStart => exact ⟨0, by omega, rfl, rfl, HO1.out⟩
  case round =>
    obtain ⟨k, hk, rfl, rfl, ho⟩ := hrel
    have HO := Lib.hid ho
    clear ho
    unfold maxLen at hm
    by_cases hlt : k < cs.length
    · obtain ⟨b, o, rfl, hcb⟩ := HK.out (by omega)
      have c1 := HO.out.cell_some (hcb k hlt) (by simp)
      have hr := bt_range cs k
      by_cases h200 : k < 20
      · have htab := front_tab (bt cs k % 5).toNat (by omega)
        have hcat0 := str_append (pieceF (bt cs k % 5).toNat) [10]
        have hcat := str_append (frontTo cs [10] k) (pieceF (bt cs k % 5).toNat ++ [10])
        have hpl := frontTo_len cs [10] (by decide) k
        have hpp := pieceF_len (bt cs k % 5).toNat
        go_wp2_with fail
        go_roundw
        case rel => exact ⟨k + 1, by omega, by go_num, by rw [frontTo, if_pos h200], HO.out.alloc _⟩
        case measure => simp [intOf]; omega
      · go_wp2_with fail
        go_roundw
        case rel => exact ⟨k + 1, by omega, by go_num, by rw [frontTo, if_neg h200], HO.out⟩
        case measure => simp [intOf]; omega
    · obtain rfl : k = cs.length := by omega
      have hpl := frontTo_len cs [10] (by decide) cs.length
      have hcat0 := str_append [45, 45, 45] [10]
      have hcat1 := str_append (frontTo cs [10] cs.length) [45, 45, 45, 10]
      have hcat2 := str_append (frontTo cs [10] cs.length ++ [45, 45, 45, 10]) [119, 111, 114, 100, 10]
      have hnn : 0 < (frontTo cs [10] cs.length).length ∨ (frontTo cs [10] cs.length).length = 0 := by omega
      obtain ⟨c', w2, hcv, ho2, hv2⟩ := conv_str B (by rw [HLB.out]; unfold maxLen; omega) wr
      have HO2 := Lib.hid (HO.out.trans ho2)
      have HV2 := Lib.hid hv2
      clear ho2 hv2
      rw [HBV.out] at hcv
      go_wp2_with fail
      refine (lex_plain B _ w2 (HE.out.keep0 HO2.out) HV2.out (by rw [HLB.out]; omega) HNO.out).mono ?_
      rintro e w3 ⟨bs, bl, rfl, ho3, -, -, hs3⟩
      have HO3 := Lib.hid (HO2.out.trans ho3)
      have HS3 := Lib.hid hs3
      clear ho3 hs3 hcv
      go_wp2_with fail
      go_loopw [14, 57] (fun _ iv wr => ∃ j : Nat, j ≤ (frontTo cs [10] cs.length).length + 4 ∧ iv = .int .i64 j ∧ wr = w3) (fun _ iv _ => (frontTo cs [10] cs.length).length + 4 - (intOf iv).toNat)
      case atStart => exact ⟨0, by omega, rfl, rfl⟩
      case round =>
        obtain ⟨j, hj, rfl, rfl⟩ := hrel
        by_cases hjl : j < (frontTo cs [10] cs.length).length + 4
        · go_wp2_with fail
          refine (at_in bs bl j _ wr HS3.out (by rw [HLEN.out, HLB.out]; omega)).mono ?_
          rintro e w4 ⟨rfl, rfl⟩
          rw [H4.out j hjl]
          go_wp2_with fail
          go_roundw
          case rel => first | exact ⟨j + 1, by omega, by go_num, rfl⟩ | exact ⟨j + 1, by omega, by go_num, trivial⟩
          case measure => simp [intOf]; omega
        · obtain rfl : j = (frontTo cs [10] cs.length).length + 4 := by omega
          go_wp2_with fail
          rw [show ((frontTo cs [10] cs.length).length : Int) + 9 - 2 = ((B.length - 2 : Nat) : Int) by rw [HLB.out]; omega]
          refine (at_in bs bl _ _ wr HS3.out (by rw [HLEN.out, HLB.out]; omega)).mono ?_
          rintro e w4 ⟨rfl, rfl⟩
          rw [H1.out]
          go_wp2_with fail
          go_ret
          exact ⟨rfl, HO3.out⟩

set_option maxRecDepth 100000 in
set_option maxHeartbeats 1000000 in
theorem front_walk_ff (cs B : List UInt8) (v : Value) (w : World) (hE : Env w) (hv : BytesV w v cs) (hB : B = frontTo cs [10] cs.length ++ [119, 111, 114, 100, 10])
    (hL : (markL P0 B).length = B.length)
    (h4 : nth (markL P0 B) 0 = 1)
    (h1 : nth (markL P0 B) (B.length - 2) = 1)
    (hno : ∀ k, k < B.length → bt B k ≠ 60) :
    Calls Tryd.prog 6 #[v, .bool false, .bool false] w fun e w' => e = .returned (.bool true) ∧ Only [] w w' := by
  have HV := Lib.hid hv
  obtain ⟨p, c, rfl, hc, hm, hk⟩ := hv
  have HE := Lib.hid hE
  have HLEN := Lib.hid hL
  have H4 := Lib.hid h4
  have H1 := Lib.hid h1
  have HNO := Lib.hid hno
  have HK := Lib.hid hk
  have hlB : B.length = (frontTo cs [10] cs.length).length + 5 := by simp [hB]
  have hbv : (⟨B.toArray⟩ : ByteArray) = ⟨(frontTo cs [10] cs.length ++ [119, 111, 114, 100, 10]).toArray⟩ := by rw [hB]
  have HBV := Lib.hid hbv
  clear hbv hB
  have HLB := Lib.hid hlB
  clear hlB
  clear hE hL h4 h1 hno hk
  go_enter Tryd.func6, Tryd.ntmps6
  go_wp2_with (go_at_call 7; refine (awake_any _ HE.out).mono ?_; rintro e w1 ⟨rfl, ho1⟩; have HO1 := Lib.hid ho1; clear ho1)
  go_loopw [8, 9, 10, 22] (fun bv _ _ iv wr => ∃ k : Nat, k ≤ cs.length ∧ iv = .int .i64 k ∧ bv = .string ⟨(frontTo cs [10] k).toArray⟩ ∧ Only [] w wr) (fun _ _ _ iv _ => cs.length - (intOf iv).toNat)
  case atStart => exact ⟨0, by omega, rfl, rfl, HO1.out⟩
  case round =>
    obtain ⟨k, hk, rfl, rfl, ho⟩ := hrel
    have HO := Lib.hid ho
    clear ho
    unfold maxLen at hm
    by_cases hlt : k < cs.length
    · obtain ⟨b, o, rfl, hcb⟩ := HK.out (by omega)
      have c1 := HO.out.cell_some (hcb k hlt) (by simp)
      have hr := bt_range cs k
      by_cases h200 : k < 20
      · have htab := front_tab (bt cs k % 5).toNat (by omega)
        have hcat0 := str_append (pieceF (bt cs k % 5).toNat) [10]
        have hcat := str_append (frontTo cs [10] k) (pieceF (bt cs k % 5).toNat ++ [10])
        have hpl := frontTo_len cs [10] (by decide) k
        have hpp := pieceF_len (bt cs k % 5).toNat
        go_wp2_with fail
        go_roundw
        case rel => exact ⟨k + 1, by omega, by go_num, by rw [frontTo, if_pos h200], HO.out.alloc _⟩
        case measure => simp [intOf]; omega
      · go_wp2_with fail
        go_roundw
        case rel => exact ⟨k + 1, by omega, by go_num, by rw [frontTo, if_neg h200], HO.out⟩
        case measure => simp [intOf]; omega
    · obtain rfl : k = cs.length := by omega
      have hpl := frontTo_len cs [10] (by decide) cs.length
      have hcat2 := str_append (frontTo cs [10] cs.length) [119, 111, 114, 100, 10]
      have hnn : 0 < (frontTo cs [10] cs.length).length ∨ (frontTo cs [10] cs.length).length = 0 := by omega
      obtain ⟨c', w2, hcv, ho2, hv2⟩ := conv_str B (by rw [HLB.out]; unfold maxLen; omega) wr
      have HO2 := Lib.hid (HO.out.trans ho2)
      have HV2 := Lib.hid hv2
      clear ho2 hv2
      rw [HBV.out] at hcv
      go_wp2_with fail
      refine (lex_plain B _ w2 (HE.out.keep0 HO2.out) HV2.out (by rw [HLB.out]; omega) HNO.out).mono ?_
      rintro e w3 ⟨bs, bl, rfl, ho3, -, -, hs3⟩
      have HO3 := Lib.hid (HO2.out.trans ho3)
      have HS3 := Lib.hid hs3
      clear ho3 hs3 hcv
      go_wp2_with fail
      go_loopw [14, 57] (fun _ iv wr => ∃ j : Nat, j ≤ (frontTo cs [10] cs.length).length ∧ iv = .int .i64 j ∧ wr = w3) (fun _ iv _ => (frontTo cs [10] cs.length).length - (intOf iv).toNat)
      case atStart => exact ⟨0, by omega, rfl, rfl⟩
      case round =>
        obtain ⟨j, hj, rfl, rfl⟩ := hrel
        by_cases hjl : j < (frontTo cs [10] cs.length).length
        · go_wp2_with fail
          go_roundw
          case rel => first | exact ⟨j + 1, by omega, by go_num, rfl⟩ | exact ⟨j + 1, by omega, by go_num, trivial⟩
          case measure => simp [intOf]; omega
        · obtain rfl : j = (frontTo cs [10] cs.length).length := by omega
          go_wp2_with fail
          rw [show ((frontTo cs [10] cs.length).length : Int) + 5 - 2 = ((B.length - 2 : Nat) : Int) by rw [HLB.out]; omega]
          refine (at_in bs bl _ _ wr HS3.out (by rw [HLEN.out, HLB.out]; omega)).mono ?_
          rintro e w4 ⟨rfl, rfl⟩
          rw [H1.out]
          go_wp2_with fail
          refine (at_in bs bl 0 _ wr HS3.out (by rw [HLEN.out, HLB.out]; omega)).mono ?_
          rintro e w4 ⟨rfl, rfl⟩
          rw [H4.out]
          go_wp2_with fail
          go_ret
          exact ⟨rfl, HO3.out⟩

set_option maxRecDepth 100000 in
set_option maxHeartbeats 1000000 in
theorem front_walk_tt (cs B : List UInt8) (v : Value) (w : World) (hE : Env w) (hv : BytesV w v cs) (hB : B = frontTo cs [32, 13, 10] cs.length ++ [45, 45, 45, 32, 13, 10, 119, 111, 114, 100, 10])
    (hL : (markL P0 B).length = B.length)
    (h4 : ∀ j, j < (frontTo cs [32, 13, 10] cs.length).length + 6 → nth (markL P0 B) j = 4)
    (h1 : nth (markL P0 B) (B.length - 2) = 1)
    (hno : ∀ k, k < B.length → bt B k ≠ 60) :
    Calls Tryd.prog 6 #[v, .bool true, .bool true] w fun e w' => e = .returned (.bool true) ∧ Only [] w w' := by
  have HV := Lib.hid hv
  obtain ⟨p, c, rfl, hc, hm, hk⟩ := hv
  have HE := Lib.hid hE
  have HLEN := Lib.hid hL
  have H4 := Lib.hid h4
  have H1 := Lib.hid h1
  have HNO := Lib.hid hno
  have HK := Lib.hid hk
  have hlB : B.length = (frontTo cs [32, 13, 10] cs.length).length + 11 := by simp [hB]
  have hbv : (⟨B.toArray⟩ : ByteArray) = ⟨(frontTo cs [32, 13, 10] cs.length ++ [45, 45, 45, 32, 13, 10, 119, 111, 114, 100, 10]).toArray⟩ := by rw [hB]
  have HBV := Lib.hid hbv
  clear hbv hB
  have HLB := Lib.hid hlB
  clear hlB
  clear hE hL h4 h1 hno hk
  go_enter Tryd.func6, Tryd.ntmps6
  go_wp2_with (go_at_call 7; refine (awake_any _ HE.out).mono ?_; rintro e w1 ⟨rfl, ho1⟩; have HO1 := Lib.hid ho1; clear ho1)
  go_loopw [8, 9, 10, 22] (fun bv _ _ iv wr => ∃ k : Nat, k ≤ cs.length ∧ iv = .int .i64 k ∧ bv = .string ⟨(frontTo cs [32, 13, 10] k).toArray⟩ ∧ Only [] w wr) (fun _ _ _ iv _ => cs.length - (intOf iv).toNat)
  case atStart => exact ⟨0, by omega, rfl, rfl, HO1.out⟩
  case round =>
    obtain ⟨k, hk, rfl, rfl, ho⟩ := hrel
    have HO := Lib.hid ho
    clear ho
    unfold maxLen at hm
    by_cases hlt : k < cs.length
    · obtain ⟨b, o, rfl, hcb⟩ := HK.out (by omega)
      have c1 := HO.out.cell_some (hcb k hlt) (by simp)
      have hr := bt_range cs k
      by_cases h200 : k < 20
      · have htab := front_tab (bt cs k % 5).toNat (by omega)
        have hcat0 := str_append (pieceF (bt cs k % 5).toNat) [32, 13, 10]
        have hcat := str_append (frontTo cs [32, 13, 10] k) (pieceF (bt cs k % 5).toNat ++ [32, 13, 10])
        have hpl := frontTo_len cs [32, 13, 10] (by decide) k
        have hpp := pieceF_len (bt cs k % 5).toNat
        go_wp2_with fail
        go_roundw
        case rel => exact ⟨k + 1, by omega, by go_num, by rw [frontTo, if_pos h200], HO.out.alloc _⟩
        case measure => simp [intOf]; omega
      · go_wp2_with fail
        go_roundw
        case rel => exact ⟨k + 1, by omega, by go_num, by rw [frontTo, if_neg h200], HO.out⟩
        case measure => simp [intOf]; omega
    · obtain rfl : k = cs.length := by omega
      have hpl := frontTo_len cs [32, 13, 10] (by decide) cs.length
      have hcat0 := str_append [45, 45, 45] [32, 13, 10]
      have hcat1 := str_append (frontTo cs [32, 13, 10] cs.length) [45, 45, 45, 32, 13, 10]
      have hcat2 := str_append (frontTo cs [32, 13, 10] cs.length ++ [45, 45, 45, 32, 13, 10]) [119, 111, 114, 100, 10]
      have hnn : 0 < (frontTo cs [32, 13, 10] cs.length).length ∨ (frontTo cs [32, 13, 10] cs.length).length = 0 := by omega
      obtain ⟨c', w2, hcv, ho2, hv2⟩ := conv_str B (by rw [HLB.out]; unfold maxLen; omega) wr
      have HO2 := Lib.hid (HO.out.trans ho2)
      have HV2 := Lib.hid hv2
      clear ho2 hv2
      rw [HBV.out] at hcv
      go_wp2_with fail
      refine (lex_plain B _ w2 (HE.out.keep0 HO2.out) HV2.out (by rw [HLB.out]; omega) HNO.out).mono ?_
      rintro e w3 ⟨bs, bl, rfl, ho3, -, -, hs3⟩
      have HO3 := Lib.hid (HO2.out.trans ho3)
      have HS3 := Lib.hid hs3
      clear ho3 hs3 hcv
      go_wp2_with fail
      go_loopw [14, 57] (fun _ iv wr => ∃ j : Nat, j ≤ (frontTo cs [32, 13, 10] cs.length).length + 6 ∧ iv = .int .i64 j ∧ wr = w3) (fun _ iv _ => (frontTo cs [32, 13, 10] cs.length).length + 6 - (intOf iv).toNat)
      case atStart => exact ⟨0, by omega, rfl, rfl⟩
      case round =>
        obtain ⟨j, hj, rfl, rfl⟩ := hrel
        by_cases hjl : j < (frontTo cs [32, 13, 10] cs.length).length + 6
        · go_wp2_with fail
          refine (at_in bs bl j _ wr HS3.out (by rw [HLEN.out, HLB.out]; omega)).mono ?_
          rintro e w4 ⟨rfl, rfl⟩
          rw [H4.out j hjl]
          go_wp2_with fail
          go_roundw
          case rel => first | exact ⟨j + 1, by omega, by go_num, rfl⟩ | exact ⟨j + 1, by omega, by go_num, trivial⟩
          case measure => simp [intOf]; omega
        · obtain rfl : j = (frontTo cs [32, 13, 10] cs.length).length + 6 := by omega
          go_wp2_with fail
          rw [show ((frontTo cs [32, 13, 10] cs.length).length : Int) + 11 - 2 = ((B.length - 2 : Nat) : Int) by rw [HLB.out]; omega]
          refine (at_in bs bl _ _ wr HS3.out (by rw [HLEN.out, HLB.out]; omega)).mono ?_
          rintro e w4 ⟨rfl, rfl⟩
          rw [H1.out]
          go_wp2_with fail
          go_ret
          exact ⟨rfl, HO3.out⟩

set_option maxRecDepth 100000 in
set_option maxHeartbeats 1000000 in
theorem front_walk_ft (cs B : List UInt8) (v : Value) (w : World) (hE : Env w) (hv : BytesV w v cs) (hB : B = frontTo cs [32, 13, 10] cs.length ++ [119, 111, 114, 100, 10])
    (hL : (markL P0 B).length = B.length)
    (h4 : nth (markL P0 B) 0 = 1)
    (h1 : nth (markL P0 B) (B.length - 2) = 1)
    (hno : ∀ k, k < B.length → bt B k ≠ 60) :
    Calls Tryd.prog 6 #[v, .bool false, .bool true] w fun e w' => e = .returned (.bool true) ∧ Only [] w w' := by
  have HV := Lib.hid hv
  obtain ⟨p, c, rfl, hc, hm, hk⟩ := hv
  have HE := Lib.hid hE
  have HLEN := Lib.hid hL
  have H4 := Lib.hid h4
  have H1 := Lib.hid h1
  have HNO := Lib.hid hno
  have HK := Lib.hid hk
  have hlB : B.length = (frontTo cs [32, 13, 10] cs.length).length + 5 := by simp [hB]
  have hbv : (⟨B.toArray⟩ : ByteArray) = ⟨(frontTo cs [32, 13, 10] cs.length ++ [119, 111, 114, 100, 10]).toArray⟩ := by rw [hB]
  have HBV := Lib.hid hbv
  clear hbv hB
  have HLB := Lib.hid hlB
  clear hlB
  clear hE hL h4 h1 hno hk
  go_enter Tryd.func6, Tryd.ntmps6
  go_wp2_with (go_at_call 7; refine (awake_any _ HE.out).mono ?_; rintro e w1 ⟨rfl, ho1⟩; have HO1 := Lib.hid ho1; clear ho1)
  go_loopw [8, 9, 10, 22] (fun bv _ _ iv wr => ∃ k : Nat, k ≤ cs.length ∧ iv = .int .i64 k ∧ bv = .string ⟨(frontTo cs [32, 13, 10] k).toArray⟩ ∧ Only [] w wr) (fun _ _ _ iv _ => cs.length - (intOf iv).toNat)
  case atStart => exact ⟨0, by omega, rfl, rfl, HO1.out⟩
  case round =>
    obtain ⟨k, hk, rfl, rfl, ho⟩ := hrel
    have HO := Lib.hid ho
    clear ho
    unfold maxLen at hm
    by_cases hlt : k < cs.length
    · obtain ⟨b, o, rfl, hcb⟩ := HK.out (by omega)
      have c1 := HO.out.cell_some (hcb k hlt) (by simp)
      have hr := bt_range cs k
      by_cases h200 : k < 20
      · have htab := front_tab (bt cs k % 5).toNat (by omega)
        have hcat0 := str_append (pieceF (bt cs k % 5).toNat) [32, 13, 10]
        have hcat := str_append (frontTo cs [32, 13, 10] k) (pieceF (bt cs k % 5).toNat ++ [32, 13, 10])
        have hpl := frontTo_len cs [32, 13, 10] (by decide) k
        have hpp := pieceF_len (bt cs k % 5).toNat
        go_wp2_with fail
        go_roundw
        case rel => exact ⟨k + 1, by omega, by go_num, by rw [frontTo, if_pos h200], HO.out.alloc _⟩
        case measure => simp [intOf]; omega
      · go_wp2_with fail
        go_roundw
        case rel => exact ⟨k + 1, by omega, by go_num, by rw [frontTo, if_neg h200], HO.out⟩
        case measure => simp [intOf]; omega
    · obtain rfl : k = cs.length := by omega
      have hpl := frontTo_len cs [32, 13, 10] (by decide) cs.length
      have hcat2 := str_append (frontTo cs [32, 13, 10] cs.length) [119, 111, 114, 100, 10]
      have hnn : 0 < (frontTo cs [32, 13, 10] cs.length).length ∨ (frontTo cs [32, 13, 10] cs.length).length = 0 := by omega
      obtain ⟨c', w2, hcv, ho2, hv2⟩ := conv_str B (by rw [HLB.out]; unfold maxLen; omega) wr
      have HO2 := Lib.hid (HO.out.trans ho2)
      have HV2 := Lib.hid hv2
      clear ho2 hv2
      rw [HBV.out] at hcv
      go_wp2_with fail
      refine (lex_plain B _ w2 (HE.out.keep0 HO2.out) HV2.out (by rw [HLB.out]; omega) HNO.out).mono ?_
      rintro e w3 ⟨bs, bl, rfl, ho3, -, -, hs3⟩
      have HO3 := Lib.hid (HO2.out.trans ho3)
      have HS3 := Lib.hid hs3
      clear ho3 hs3 hcv
      go_wp2_with fail
      go_loopw [14, 57] (fun _ iv wr => ∃ j : Nat, j ≤ (frontTo cs [32, 13, 10] cs.length).length ∧ iv = .int .i64 j ∧ wr = w3) (fun _ iv _ => (frontTo cs [32, 13, 10] cs.length).length - (intOf iv).toNat)
      case atStart => exact ⟨0, by omega, rfl, rfl⟩
      case round =>
        obtain ⟨j, hj, rfl, rfl⟩ := hrel
        by_cases hjl : j < (frontTo cs [32, 13, 10] cs.length).length
        · go_wp2_with fail
          go_roundw
          case rel => first | exact ⟨j + 1, by omega, by go_num, rfl⟩ | exact ⟨j + 1, by omega, by go_num, trivial⟩
          case measure => simp [intOf]; omega
        · obtain rfl : j = (frontTo cs [32, 13, 10] cs.length).length := by omega
          go_wp2_with fail
          rw [show ((frontTo cs [32, 13, 10] cs.length).length : Int) + 5 - 2 = ((B.length - 2 : Nat) : Int) by rw [HLB.out]; omega]
          refine (at_in bs bl _ _ wr HS3.out (by rw [HLEN.out, HLB.out]; omega)).mono ?_
          rintro e w4 ⟨rfl, rfl⟩
          rw [H1.out]
          go_wp2_with fail
          refine (at_in bs bl 0 _ wr HS3.out (by rw [HLEN.out, HLB.out]; omega)).mono ?_
          rintro e w4 ⟨rfl, rfl⟩
          rw [H4.out]
          go_wp2_with fail
          go_ret
          exact ⟨rfl, HO3.out⟩
end Go.Proofs.YtpohopmggpiomaaDoor
