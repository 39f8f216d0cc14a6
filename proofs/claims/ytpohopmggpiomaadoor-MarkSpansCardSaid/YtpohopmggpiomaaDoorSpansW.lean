/-
  redpenlaw12.MarkSpans: the walk of the law.
-/
import Derived.Test.YtpohopmggpiomaaDoorSpans
namespace Go.Proofs.YtpohopmggpiomaaDoor
open Go.RowKit

/-- One sign of the text. -/
def sgnB : Nat → UInt8
  | 0 => 98 | 1 => 99 | 2 => 32 | _ => 100

/-- The text: of the first twelve numbers. -/
def spTo (cs : List UInt8) : Nat → List UInt8
  | 0 => [97]
  | k + 1 => if k < 12 then spTo cs k ++ [sgnB (bt cs k % 4).toNat] else spTo cs k

theorem spTo_len (cs : List UInt8) (k : Nat) : 0 < (spTo cs k).length ∧ (spTo cs k).length ≤ 13 := by
  have h : ∀ k, 0 < (spTo cs k).length ∧ (spTo cs k).length ≤ 1 + k ∧ (spTo cs k).length ≤ 13 := by
    intro k
    induction k with
    | zero => simp [spTo]
    | succ k ih =>
      rw [spTo]
      split
      · simp only [List.length_append, List.length_singleton]; omega
      · omega
  exact ⟨(h k).1, (h k).2.2⟩

theorem sgn_tab (n : Nat) (h : n < (⟨#[98, 99, 32, 100]⟩ : ByteArray).size) : (⟨#[98, 99, 32, 100]⟩ : ByteArray)[n] = sgnB n := by
  have h' : n < 4 := h
  have : n = 0 ∨ n = 1 ∨ n = 2 ∨ n = 3 := by omega
  rcases this with rfl | rfl | rfl | rfl <;> rfl

set_option maxRecDepth 100000 in
set_option maxHeartbeats 1000000 in
theorem spans_walk_eo (a0 a1 : Int) (x y : Nat) (cs B : List UInt8) (v : Value) (w : World) (hE : Env w) (hv : BytesV w v cs) (h0 : 0 ≤ a0 ∧ a0 ≤ 255) (h1 : 0 ≤ a1 ∧ a1 ≤ 255)
    (hx : 1 + a0 % 4 = (x : Int)) (hy : 1 + a1 % 4 = (y : Int)) (hxy : y = x)
    (hB : B = 122 :: 32 :: (tk x ++ spTo cs cs.length))
    (hL : (markL P0 B).length = B.length)
    (h4 : ∀ j, j < B.length → nth (markL P0 B) j = 1)
    (hno : ∀ k, k < B.length → bt B k ≠ 60) :
    Calls Tryd.prog 5 #[.int .u8 a0, .int .u8 a1, v, .bool true] w fun e w' => e = .returned (.bool true) ∧ Only [] w w' := by
  have HV := Lib.hid hv
  obtain ⟨p, c, rfl, hc, hm, hk⟩ := hv
  have HE := Lib.hid hE
  have HLEN := Lib.hid hL
  have H4 := Lib.hid h4
  have HNO := Lib.hid hno
  have HK := Lib.hid hk
  have HX := Lib.hid hx
  have HY := Lib.hid hy
  have hx4 : 1 ≤ x ∧ x ≤ 4 := by omega
  have hy4 : 1 ≤ y ∧ y ≤ 4 := by omega
  have hlB : B.length = 2 + x + (spTo cs cs.length).length := by simp [hB, tk_len]; try omega
  have hbv : (⟨B.toArray⟩ : ByteArray) = ⟨(122 :: 32 :: (tk x ++ spTo cs cs.length)).toArray⟩ := by rw [hB]
  have HBV := Lib.hid hbv
  have HLB := Lib.hid hlB
  have hne : ((1 + a1 % 4 : Int) == (1 + a0 % 4)) = true := by rw [hx, hy]; simp; omega
  clear hE hL h4 hno hk hx hy hxy hbv hB hlB
  go_enter Tryd.func5, Tryd.ntmps5
  go_wp2_with (go_at_call 7; refine (awake_any _ HE.out).mono ?_; rintro e w1 ⟨rfl, ho1⟩; have HO1 := Lib.hid ho1; clear ho1)
  go_loopw [12, 13, 14, 32] (fun bv _ _ iv wr => ∃ k : Nat, k ≤ cs.length ∧ iv = .int .i64 k ∧ bv = .string ⟨(spTo cs k).toArray⟩ ∧ Only [] w wr) (fun _ _ _ iv _ => cs.length - (intOf iv).toNat)
  case atStart => exact ⟨0, by omega, rfl, rfl, HO1.out⟩
  case round =>
    obtain ⟨k, hk, rfl, rfl, ho⟩ := hrel
    have HO := Lib.hid ho
    clear ho
    unfold maxLen at hm
    by_cases hlt : k < cs.length
    · obtain ⟨b, o, rfl, hcb⟩ := HK.out (by omega)
      have c1 := HO.out.cell_some (hcb k hlt) (by simp)
      have hr := bt_range cs k
      have hpl := spTo_len cs k
      by_cases h200 : k < 12
      · have htab := sgn_tab (bt cs k % 4).toNat
        have hcat := str_append (spTo cs k) [sgnB (bt cs k % 4).toNat]
        have hcv : (convert 22 9 (.slice (some ⟨wr.heap.size, 0, none⟩) 1 1)).run Tryd.prog (wr.alloc (.cells #[.int .u8 ((sgnB (bt cs k % 4).toNat).toNat : Int)] 5)) = .ok (.string ⟨[sgnB (bt cs k % 4).toNat].toArray⟩) (wr.alloc (.cells #[.int .u8 ((sgnB (bt cs k % 4).toNat).toNat : Int)] 5)) :=
          conv_bytes (l := [sgnB (bt cs k % 4).toNat]) ⟨_, 1, rfl, by simp, by unfold maxLen; omega, fun _ => ⟨_, 0, rfl, fun j hj => by
            obtain rfl : j = 0 := by simp at hj; omega
            rw [Nat.zero_add, cell_blk (alloc_new wr _)]; rfl⟩⟩ _ _ 5 Tryd.underlying22 Tryd.underlying5 Tryd.underlying9
        go_wp2_with fail
        go_roundw
        case rel => exact ⟨k + 1, by omega, by go_num, by rw [spTo, if_pos h200], HO.out.alloc _⟩
        case measure => simp [intOf]; omega
      · go_wp2_with fail
        go_roundw
        case rel => exact ⟨k + 1, by omega, by go_num, by rw [spTo, if_neg h200], HO.out⟩
        case measure => simp [intOf]; omega
    · obtain rfl : k = cs.length := by omega
      have hpl := spTo_len cs cs.length
      have htx := tk_len x
      have hty := tk_len y
      have hc0 : (⟨([122, 32] : List UInt8).toArray⟩ : ByteArray) ++ ⟨(tk x : List UInt8).toArray⟩ = ⟨(122 :: 32 :: tk x : List UInt8).toArray⟩ := (str_append _ _).trans (by simp)
      have hc1 : (⟨(122 :: 32 :: tk x : List UInt8).toArray⟩ : ByteArray) ++ ⟨(spTo cs cs.length : List UInt8).toArray⟩ = ⟨(122 :: 32 :: (tk x ++ spTo cs cs.length) : List UInt8).toArray⟩ := (str_append _ _).trans (by simp)
      go_wp2_with fail
      refine (ticks_int (1 + a0 % 4) x HX.out _ (by omega)).mono ?_
      rintro e w2 ⟨rfl, ho2⟩
      have HO := Lib.hid (HO.out.trans ho2)
      clear ho2
      obtain ⟨c', w3, hcv, ho3, hv3⟩ := conv_str B (by rw [HLB.out]; unfold maxLen; omega) w2
      have HO3 := Lib.hid (HO.out.trans ho3)
      have HV3 := Lib.hid hv3
      clear ho3 hv3
      rw [HBV.out] at hcv
      go_wp2_with fail
      refine (lex_plain B _ w3 (HE.out.keep0 HO3.out) HV3.out (by rw [HLB.out]; omega) HNO.out).mono ?_
      rintro e w4 ⟨bs, bl, rfl, ho4, -, -, hs4⟩
      have HO4 := Lib.hid (HO3.out.trans ho4)
      have HS4 := Lib.hid hs4
      clear ho4 hs4 hcv
      go_wp2_with fail
      go_loopw [18, 19, 78] (fun _ _ iv wr => ∃ j : Nat, j ≤ 2 + x + (spTo cs cs.length).length ∧ iv = .int .i64 j ∧ wr = w4) (fun _ _ iv _ => 2 + x + (spTo cs cs.length).length - (intOf iv).toNat)
      case atStart => exact ⟨0, by omega, rfl, rfl⟩
      case round =>
        obtain ⟨j, hj, rfl, rfl⟩ := hrel
        by_cases hjl : j < 2 + x + (spTo cs cs.length).length
        · have HA := Lib.hid (at_in bs bl j _ wr HS4.out (by rw [HLEN.out, HLB.out]; omega))
          have H4j := Lib.hid (H4.out j (by rw [HLB.out]; omega))
          go_wp2_with fail
          refine HA.out.mono ?_
          rintro e w5 ⟨rfl, rfl⟩
          rw [H4j.out]
          go_wp2_with fail
          go_roundw
          case rel => first | exact ⟨j + 1, by omega, by go_num, rfl⟩ | exact ⟨j + 1, by omega, by go_num, trivial⟩
          case measure => simp [intOf]; omega
        · obtain rfl : j = 2 + x + (spTo cs cs.length).length := by omega
          go_wp2_with fail
          go_ret
          exact ⟨rfl, HO4.out⟩

set_option maxRecDepth 100000 in
set_option maxHeartbeats 1000000 in
theorem spans_walk_ec (a0 a1 : Int) (x y : Nat) (cs B : List UInt8) (v : Value) (w : World) (hE : Env w) (hv : BytesV w v cs) (h0 : 0 ≤ a0 ∧ a0 ≤ 255) (h1 : 0 ≤ a1 ∧ a1 ≤ 255)
    (hx : 1 + a0 % 4 = (x : Int)) (hy : 1 + a1 % 4 = (y : Int)) (hxy : y = x)
    (hB : B = 122 :: 32 :: (tk x ++ (spTo cs cs.length ++ (tk x ++ [32, 119]))))
    (hL : (markL P0 B).length = B.length)
    (h4 : ∀ j, j < B.length → nth (markL P0 B) j = if 2 ≤ j ∧ j < B.length - 2 then 4 else 1)
    (hno : ∀ k, k < B.length → bt B k ≠ 60) :
    Calls Tryd.prog 5 #[.int .u8 a0, .int .u8 a1, v, .bool false] w fun e w' => e = .returned (.bool true) ∧ Only [] w w' := by
  have HV := Lib.hid hv
  obtain ⟨p, c, rfl, hc, hm, hk⟩ := hv
  have HE := Lib.hid hE
  have HLEN := Lib.hid hL
  have H4 := Lib.hid h4
  have HNO := Lib.hid hno
  have HK := Lib.hid hk
  have HX := Lib.hid hx
  have HY := Lib.hid hy
  have hx4 : 1 ≤ x ∧ x ≤ 4 := by omega
  have hy4 : 1 ≤ y ∧ y ≤ 4 := by omega
  have hlB : B.length = 2 + x + (spTo cs cs.length).length + x + 2 := by simp [hB, tk_len]; try omega
  have hbv : (⟨B.toArray⟩ : ByteArray) = ⟨(122 :: 32 :: (tk x ++ (spTo cs cs.length ++ (tk x ++ [32, 119])))).toArray⟩ := by rw [hB]
  have HBV := Lib.hid hbv
  have HLB := Lib.hid hlB
  have hne : ((1 + a1 % 4 : Int) == (1 + a0 % 4)) = true := by rw [hx, hy]; simp; omega
  clear hE hL h4 hno hk hx hy hxy hbv hB hlB
  go_enter Tryd.func5, Tryd.ntmps5
  go_wp2_with (go_at_call 7; refine (awake_any _ HE.out).mono ?_; rintro e w1 ⟨rfl, ho1⟩; have HO1 := Lib.hid ho1; clear ho1)
  go_loopw [12, 13, 14, 32] (fun bv _ _ iv wr => ∃ k : Nat, k ≤ cs.length ∧ iv = .int .i64 k ∧ bv = .string ⟨(spTo cs k).toArray⟩ ∧ Only [] w wr) (fun _ _ _ iv _ => cs.length - (intOf iv).toNat)
  case atStart => exact ⟨0, by omega, rfl, rfl, HO1.out⟩
  case round =>
    obtain ⟨k, hk, rfl, rfl, ho⟩ := hrel
    have HO := Lib.hid ho
    clear ho
    unfold maxLen at hm
    by_cases hlt : k < cs.length
    · obtain ⟨b, o, rfl, hcb⟩ := HK.out (by omega)
      have c1 := HO.out.cell_some (hcb k hlt) (by simp)
      have hr := bt_range cs k
      have hpl := spTo_len cs k
      by_cases h200 : k < 12
      · have htab := sgn_tab (bt cs k % 4).toNat
        have hcat := str_append (spTo cs k) [sgnB (bt cs k % 4).toNat]
        have hcv : (convert 22 9 (.slice (some ⟨wr.heap.size, 0, none⟩) 1 1)).run Tryd.prog (wr.alloc (.cells #[.int .u8 ((sgnB (bt cs k % 4).toNat).toNat : Int)] 5)) = .ok (.string ⟨[sgnB (bt cs k % 4).toNat].toArray⟩) (wr.alloc (.cells #[.int .u8 ((sgnB (bt cs k % 4).toNat).toNat : Int)] 5)) :=
          conv_bytes (l := [sgnB (bt cs k % 4).toNat]) ⟨_, 1, rfl, by simp, by unfold maxLen; omega, fun _ => ⟨_, 0, rfl, fun j hj => by
            obtain rfl : j = 0 := by simp at hj; omega
            rw [Nat.zero_add, cell_blk (alloc_new wr _)]; rfl⟩⟩ _ _ 5 Tryd.underlying22 Tryd.underlying5 Tryd.underlying9
        go_wp2_with fail
        go_roundw
        case rel => exact ⟨k + 1, by omega, by go_num, by rw [spTo, if_pos h200], HO.out.alloc _⟩
        case measure => simp [intOf]; omega
      · go_wp2_with fail
        go_roundw
        case rel => exact ⟨k + 1, by omega, by go_num, by rw [spTo, if_neg h200], HO.out⟩
        case measure => simp [intOf]; omega
    · obtain rfl : k = cs.length := by omega
      have hpl := spTo_len cs cs.length
      have htx := tk_len x
      have hty := tk_len y
      have hc0 : (⟨([122, 32] : List UInt8).toArray⟩ : ByteArray) ++ ⟨(tk x : List UInt8).toArray⟩ = ⟨(122 :: 32 :: tk x : List UInt8).toArray⟩ := (str_append _ _).trans (by simp)
      have hc1 : (⟨(122 :: 32 :: tk x : List UInt8).toArray⟩ : ByteArray) ++ ⟨(spTo cs cs.length : List UInt8).toArray⟩ = ⟨(122 :: 32 :: (tk x ++ spTo cs cs.length) : List UInt8).toArray⟩ := (str_append _ _).trans (by simp)
      have hc2 : (⟨(tk x : List UInt8).toArray⟩ : ByteArray) ++ ⟨([32, 119] : List UInt8).toArray⟩ = ⟨(tk x ++ [32, 119] : List UInt8).toArray⟩ := (str_append _ _).trans (by simp)
      have hc3 : (⟨(122 :: 32 :: (tk x ++ spTo cs cs.length) : List UInt8).toArray⟩ : ByteArray) ++ ⟨(tk x ++ [32, 119] : List UInt8).toArray⟩ = ⟨(122 :: 32 :: (tk x ++ (spTo cs cs.length ++ (tk x ++ [32, 119]))) : List UInt8).toArray⟩ := (str_append _ _).trans (by simp)
      go_wp2_with fail
      refine (ticks_int (1 + a0 % 4) x HX.out _ (by omega)).mono ?_
      rintro e w2 ⟨rfl, ho2⟩
      have HO := Lib.hid (HO.out.trans ho2)
      clear ho2
      go_wp2_with fail
      refine (ticks_int (1 + a0 % 4) x HX.out _ (by omega)).mono ?_
      rintro e w2 ⟨rfl, ho2⟩
      have HO := Lib.hid (HO.out.trans ho2)
      clear ho2
      obtain ⟨c', w3, hcv, ho3, hv3⟩ := conv_str B (by rw [HLB.out]; unfold maxLen; omega) w2
      have HO3 := Lib.hid (HO.out.trans ho3)
      have HV3 := Lib.hid hv3
      clear ho3 hv3
      rw [HBV.out] at hcv
      go_wp2_with fail
      refine (lex_plain B _ w3 (HE.out.keep0 HO3.out) HV3.out (by rw [HLB.out]; omega) HNO.out).mono ?_
      rintro e w4 ⟨bs, bl, rfl, ho4, -, -, hs4⟩
      have HO4 := Lib.hid (HO3.out.trans ho4)
      have HS4 := Lib.hid hs4
      clear ho4 hs4 hcv
      go_wp2_with fail
      go_loopw [18, 19, 78] (fun _ _ iv wr => ∃ j : Nat, j ≤ 2 + x + (spTo cs cs.length).length + x + 2 ∧ iv = .int .i64 j ∧ wr = w4) (fun _ _ iv _ => 2 + x + (spTo cs cs.length).length + x + 2 - (intOf iv).toNat)
      case atStart => exact ⟨0, by omega, rfl, rfl⟩
      case round =>
        obtain ⟨j, hj, rfl, rfl⟩ := hrel
        by_cases hjl : j < 2 + x + (spTo cs cs.length).length + x + 2
        · have HA := Lib.hid (at_in bs bl j _ wr HS4.out (by rw [HLEN.out, HLB.out]; omega))
          have H4j := Lib.hid (H4.out j (by rw [HLB.out]; omega))
          by_cases hj2 : 2 ≤ j
          · by_cases hje : j < 2 + x + (spTo cs cs.length).length + x + 2 - 2
            · go_wp2_with fail
              refine HA.out.mono ?_
              rintro e w5 ⟨rfl, rfl⟩
              rw [H4j.out, if_pos (by rw [HLB.out]; omega)]
              go_wp2_with fail
              go_roundw
              case rel => first | exact ⟨j + 1, by omega, by go_num, rfl⟩ | exact ⟨j + 1, by omega, by go_num, trivial⟩
              case measure => simp [intOf]; omega
            · go_wp2_with fail
              refine HA.out.mono ?_
              rintro e w5 ⟨rfl, rfl⟩
              rw [H4j.out, if_neg (by rw [HLB.out]; omega)]
              go_wp2_with fail
              go_roundw
              case rel => first | exact ⟨j + 1, by omega, by go_num, rfl⟩ | exact ⟨j + 1, by omega, by go_num, trivial⟩
              case measure => simp [intOf]; omega
          · go_wp2_with fail
            refine HA.out.mono ?_
            rintro e w5 ⟨rfl, rfl⟩
            rw [H4j.out, if_neg (by omega)]
            go_wp2_with fail
            go_roundw
            case rel => first | exact ⟨j + 1, by omega, by go_num, rfl⟩ | exact ⟨j + 1, by omega, by go_num, trivial⟩
            case measure => simp [intOf]; omega
        · obtain rfl : j = 2 + x + (spTo cs cs.length).length + x + 2 := by omega
          go_wp2_with fail
          go_ret
          exact ⟨rfl, HO4.out⟩

set_option maxRecDepth 100000 in
set_option maxHeartbeats 1000000 in
theorem spans_walk_no (a0 a1 : Int) (x y : Nat) (cs B : List UInt8) (v : Value) (w : World) (hE : Env w) (hv : BytesV w v cs) (h0 : 0 ≤ a0 ∧ a0 ≤ 255) (h1 : 0 ≤ a1 ∧ a1 ≤ 255)
    (hx : 1 + a0 % 4 = (x : Int)) (hy : 1 + a1 % 4 = (y : Int)) (hxy : y ≠ x)
    (hB : B = 122 :: 32 :: (tk x ++ (spTo cs cs.length ++ (tk y ++ [101]))))
    (hL : (markL P0 B).length = B.length)
    (h4 : ∀ j, j < B.length → nth (markL P0 B) j = 1)
    (hno : ∀ k, k < B.length → bt B k ≠ 60) :
    Calls Tryd.prog 5 #[.int .u8 a0, .int .u8 a1, v, .bool true] w fun e w' => e = .returned (.bool true) ∧ Only [] w w' := by
  have HV := Lib.hid hv
  obtain ⟨p, c, rfl, hc, hm, hk⟩ := hv
  have HE := Lib.hid hE
  have HLEN := Lib.hid hL
  have H4 := Lib.hid h4
  have HNO := Lib.hid hno
  have HK := Lib.hid hk
  have HX := Lib.hid hx
  have HY := Lib.hid hy
  have hx4 : 1 ≤ x ∧ x ≤ 4 := by omega
  have hy4 : 1 ≤ y ∧ y ≤ 4 := by omega
  have hlB : B.length = 2 + x + (spTo cs cs.length).length + y + 1 := by simp [hB, tk_len]; try omega
  have hbv : (⟨B.toArray⟩ : ByteArray) = ⟨(122 :: 32 :: (tk x ++ (spTo cs cs.length ++ (tk y ++ [101])))).toArray⟩ := by rw [hB]
  have HBV := Lib.hid hbv
  have HLB := Lib.hid hlB
  have hne : ((1 + a1 % 4 : Int) == (1 + a0 % 4)) = false := by rw [hx, hy]; simp; omega
  clear hE hL h4 hno hk hx hy hxy hbv hB hlB
  go_enter Tryd.func5, Tryd.ntmps5
  go_wp2_with (go_at_call 7; refine (awake_any _ HE.out).mono ?_; rintro e w1 ⟨rfl, ho1⟩; have HO1 := Lib.hid ho1; clear ho1)
  go_loopw [12, 13, 14, 32] (fun bv _ _ iv wr => ∃ k : Nat, k ≤ cs.length ∧ iv = .int .i64 k ∧ bv = .string ⟨(spTo cs k).toArray⟩ ∧ Only [] w wr) (fun _ _ _ iv _ => cs.length - (intOf iv).toNat)
  case atStart => exact ⟨0, by omega, rfl, rfl, HO1.out⟩
  case round =>
    obtain ⟨k, hk, rfl, rfl, ho⟩ := hrel
    have HO := Lib.hid ho
    clear ho
    unfold maxLen at hm
    by_cases hlt : k < cs.length
    · obtain ⟨b, o, rfl, hcb⟩ := HK.out (by omega)
      have c1 := HO.out.cell_some (hcb k hlt) (by simp)
      have hr := bt_range cs k
      have hpl := spTo_len cs k
      by_cases h200 : k < 12
      · have htab := sgn_tab (bt cs k % 4).toNat
        have hcat := str_append (spTo cs k) [sgnB (bt cs k % 4).toNat]
        have hcv : (convert 22 9 (.slice (some ⟨wr.heap.size, 0, none⟩) 1 1)).run Tryd.prog (wr.alloc (.cells #[.int .u8 ((sgnB (bt cs k % 4).toNat).toNat : Int)] 5)) = .ok (.string ⟨[sgnB (bt cs k % 4).toNat].toArray⟩) (wr.alloc (.cells #[.int .u8 ((sgnB (bt cs k % 4).toNat).toNat : Int)] 5)) :=
          conv_bytes (l := [sgnB (bt cs k % 4).toNat]) ⟨_, 1, rfl, by simp, by unfold maxLen; omega, fun _ => ⟨_, 0, rfl, fun j hj => by
            obtain rfl : j = 0 := by simp at hj; omega
            rw [Nat.zero_add, cell_blk (alloc_new wr _)]; rfl⟩⟩ _ _ 5 Tryd.underlying22 Tryd.underlying5 Tryd.underlying9
        go_wp2_with fail
        go_roundw
        case rel => exact ⟨k + 1, by omega, by go_num, by rw [spTo, if_pos h200], HO.out.alloc _⟩
        case measure => simp [intOf]; omega
      · go_wp2_with fail
        go_roundw
        case rel => exact ⟨k + 1, by omega, by go_num, by rw [spTo, if_neg h200], HO.out⟩
        case measure => simp [intOf]; omega
    · obtain rfl : k = cs.length := by omega
      have hpl := spTo_len cs cs.length
      have htx := tk_len x
      have hty := tk_len y
      have hc0 : (⟨(tk y : List UInt8).toArray⟩ : ByteArray) ++ ⟨([101] : List UInt8).toArray⟩ = ⟨(tk y ++ [101] : List UInt8).toArray⟩ := (str_append _ _).trans (by simp)
      have hc1 : (⟨(spTo cs cs.length : List UInt8).toArray⟩ : ByteArray) ++ ⟨(tk y ++ [101] : List UInt8).toArray⟩ = ⟨(spTo cs cs.length ++ (tk y ++ [101]) : List UInt8).toArray⟩ := (str_append _ _).trans (by simp)
      have hc2 : (⟨([122, 32] : List UInt8).toArray⟩ : ByteArray) ++ ⟨(tk x : List UInt8).toArray⟩ = ⟨(122 :: 32 :: tk x : List UInt8).toArray⟩ := (str_append _ _).trans (by simp)
      have hc3 : (⟨(122 :: 32 :: tk x : List UInt8).toArray⟩ : ByteArray) ++ ⟨((spTo cs cs.length ++ (tk y ++ [101])) : List UInt8).toArray⟩ = ⟨(122 :: 32 :: (tk x ++ (spTo cs cs.length ++ (tk y ++ [101]))) : List UInt8).toArray⟩ := (str_append _ _).trans (by simp)
      go_wp2_with fail
      refine (ticks_int (1 + a1 % 4) y HY.out _ (by omega)).mono ?_
      rintro e w2 ⟨rfl, ho2⟩
      have HO := Lib.hid (HO.out.trans ho2)
      clear ho2
      go_wp2_with fail
      refine (ticks_int (1 + a0 % 4) x HX.out _ (by omega)).mono ?_
      rintro e w2 ⟨rfl, ho2⟩
      have HO := Lib.hid (HO.out.trans ho2)
      clear ho2
      obtain ⟨c', w3, hcv, ho3, hv3⟩ := conv_str B (by rw [HLB.out]; unfold maxLen; omega) w2
      have HO3 := Lib.hid (HO.out.trans ho3)
      have HV3 := Lib.hid hv3
      clear ho3 hv3
      rw [HBV.out] at hcv
      go_wp2_with fail
      refine (lex_plain B _ w3 (HE.out.keep0 HO3.out) HV3.out (by rw [HLB.out]; omega) HNO.out).mono ?_
      rintro e w4 ⟨bs, bl, rfl, ho4, -, -, hs4⟩
      have HO4 := Lib.hid (HO3.out.trans ho4)
      have HS4 := Lib.hid hs4
      clear ho4 hs4 hcv
      go_wp2_with fail
      go_loopw [18, 19, 78] (fun _ _ iv wr => ∃ j : Nat, j ≤ 2 + x + (spTo cs cs.length).length + y + 1 ∧ iv = .int .i64 j ∧ wr = w4) (fun _ _ iv _ => 2 + x + (spTo cs cs.length).length + y + 1 - (intOf iv).toNat)
      case atStart => exact ⟨0, by omega, rfl, rfl⟩
      case round =>
        obtain ⟨j, hj, rfl, rfl⟩ := hrel
        by_cases hjl : j < 2 + x + (spTo cs cs.length).length + y + 1
        · have HA := Lib.hid (at_in bs bl j _ wr HS4.out (by rw [HLEN.out, HLB.out]; omega))
          have H4j := Lib.hid (H4.out j (by rw [HLB.out]; omega))
          go_wp2_with fail
          refine HA.out.mono ?_
          rintro e w5 ⟨rfl, rfl⟩
          rw [H4j.out]
          go_wp2_with fail
          go_roundw
          case rel => first | exact ⟨j + 1, by omega, by go_num, rfl⟩ | exact ⟨j + 1, by omega, by go_num, trivial⟩
          case measure => simp [intOf]; omega
        · obtain rfl : j = 2 + x + (spTo cs cs.length).length + y + 1 := by omega
          go_wp2_with fail
          go_ret
          exact ⟨rfl, HO4.out⟩

set_option maxRecDepth 100000 in
set_option maxHeartbeats 1000000 in
theorem spans_walk_nc (a0 a1 : Int) (x y : Nat) (cs B : List UInt8) (v : Value) (w : World) (hE : Env w) (hv : BytesV w v cs) (h0 : 0 ≤ a0 ∧ a0 ≤ 255) (h1 : 0 ≤ a1 ∧ a1 ≤ 255)
    (hx : 1 + a0 % 4 = (x : Int)) (hy : 1 + a1 % 4 = (y : Int)) (hxy : y ≠ x)
    (hB : B = 122 :: 32 :: (tk x ++ (spTo cs cs.length ++ (tk y ++ (101 :: (tk x ++ [32, 119]))))))
    (hL : (markL P0 B).length = B.length)
    (h4 : ∀ j, j < B.length → nth (markL P0 B) j = if 2 ≤ j ∧ j < B.length - 2 then 4 else 1)
    (hno : ∀ k, k < B.length → bt B k ≠ 60) :
    Calls Tryd.prog 5 #[.int .u8 a0, .int .u8 a1, v, .bool false] w fun e w' => e = .returned (.bool true) ∧ Only [] w w' := by
  have HV := Lib.hid hv
  obtain ⟨p, c, rfl, hc, hm, hk⟩ := hv
  have HE := Lib.hid hE
  have HLEN := Lib.hid hL
  have H4 := Lib.hid h4
  have HNO := Lib.hid hno
  have HK := Lib.hid hk
  have HX := Lib.hid hx
  have HY := Lib.hid hy
  have hx4 : 1 ≤ x ∧ x ≤ 4 := by omega
  have hy4 : 1 ≤ y ∧ y ≤ 4 := by omega
  have hlB : B.length = 2 + x + (spTo cs cs.length).length + y + 1 + x + 2 := by simp [hB, tk_len]; try omega
  have hbv : (⟨B.toArray⟩ : ByteArray) = ⟨(122 :: 32 :: (tk x ++ (spTo cs cs.length ++ (tk y ++ (101 :: (tk x ++ [32, 119])))))).toArray⟩ := by rw [hB]
  have HBV := Lib.hid hbv
  have HLB := Lib.hid hlB
  have hne : ((1 + a1 % 4 : Int) == (1 + a0 % 4)) = false := by rw [hx, hy]; simp; omega
  clear hE hL h4 hno hk hx hy hxy hbv hB hlB
  go_enter Tryd.func5, Tryd.ntmps5
  go_wp2_with (go_at_call 7; refine (awake_any _ HE.out).mono ?_; rintro e w1 ⟨rfl, ho1⟩; have HO1 := Lib.hid ho1; clear ho1)
  go_loopw [12, 13, 14, 32] (fun bv _ _ iv wr => ∃ k : Nat, k ≤ cs.length ∧ iv = .int .i64 k ∧ bv = .string ⟨(spTo cs k).toArray⟩ ∧ Only [] w wr) (fun _ _ _ iv _ => cs.length - (intOf iv).toNat)
  case atStart => exact ⟨0, by omega, rfl, rfl, HO1.out⟩
  case round =>
    obtain ⟨k, hk, rfl, rfl, ho⟩ := hrel
    have HO := Lib.hid ho
    clear ho
    unfold maxLen at hm
    by_cases hlt : k < cs.length
    · obtain ⟨b, o, rfl, hcb⟩ := HK.out (by omega)
      have c1 := HO.out.cell_some (hcb k hlt) (by simp)
      have hr := bt_range cs k
      have hpl := spTo_len cs k
      by_cases h200 : k < 12
      · have htab := sgn_tab (bt cs k % 4).toNat
        have hcat := str_append (spTo cs k) [sgnB (bt cs k % 4).toNat]
        have hcv : (convert 22 9 (.slice (some ⟨wr.heap.size, 0, none⟩) 1 1)).run Tryd.prog (wr.alloc (.cells #[.int .u8 ((sgnB (bt cs k % 4).toNat).toNat : Int)] 5)) = .ok (.string ⟨[sgnB (bt cs k % 4).toNat].toArray⟩) (wr.alloc (.cells #[.int .u8 ((sgnB (bt cs k % 4).toNat).toNat : Int)] 5)) :=
          conv_bytes (l := [sgnB (bt cs k % 4).toNat]) ⟨_, 1, rfl, by simp, by unfold maxLen; omega, fun _ => ⟨_, 0, rfl, fun j hj => by
            obtain rfl : j = 0 := by simp at hj; omega
            rw [Nat.zero_add, cell_blk (alloc_new wr _)]; rfl⟩⟩ _ _ 5 Tryd.underlying22 Tryd.underlying5 Tryd.underlying9
        go_wp2_with fail
        go_roundw
        case rel => exact ⟨k + 1, by omega, by go_num, by rw [spTo, if_pos h200], HO.out.alloc _⟩
        case measure => simp [intOf]; omega
      · go_wp2_with fail
        go_roundw
        case rel => exact ⟨k + 1, by omega, by go_num, by rw [spTo, if_neg h200], HO.out⟩
        case measure => simp [intOf]; omega
    · obtain rfl : k = cs.length := by omega
      have hpl := spTo_len cs cs.length
      have htx := tk_len x
      have hty := tk_len y
      have hc0 : (⟨(tk y : List UInt8).toArray⟩ : ByteArray) ++ ⟨([101] : List UInt8).toArray⟩ = ⟨(tk y ++ [101] : List UInt8).toArray⟩ := (str_append _ _).trans (by simp)
      have hc1 : (⟨(spTo cs cs.length : List UInt8).toArray⟩ : ByteArray) ++ ⟨(tk y ++ [101] : List UInt8).toArray⟩ = ⟨(spTo cs cs.length ++ (tk y ++ [101]) : List UInt8).toArray⟩ := (str_append _ _).trans (by simp)
      have hc2 : (⟨([122, 32] : List UInt8).toArray⟩ : ByteArray) ++ ⟨(tk x : List UInt8).toArray⟩ = ⟨(122 :: 32 :: tk x : List UInt8).toArray⟩ := (str_append _ _).trans (by simp)
      have hc3 : (⟨(122 :: 32 :: tk x : List UInt8).toArray⟩ : ByteArray) ++ ⟨((spTo cs cs.length ++ (tk y ++ [101])) : List UInt8).toArray⟩ = ⟨(122 :: 32 :: (tk x ++ (spTo cs cs.length ++ (tk y ++ [101]))) : List UInt8).toArray⟩ := (str_append _ _).trans (by simp)
      have hc4 : (⟨(tk x : List UInt8).toArray⟩ : ByteArray) ++ ⟨([32, 119] : List UInt8).toArray⟩ = ⟨(tk x ++ [32, 119] : List UInt8).toArray⟩ := (str_append _ _).trans (by simp)
      have hc5 : (⟨(122 :: 32 :: (tk x ++ (spTo cs cs.length ++ (tk y ++ [101]))) : List UInt8).toArray⟩ : ByteArray) ++ ⟨(tk x ++ [32, 119] : List UInt8).toArray⟩ = ⟨(122 :: 32 :: (tk x ++ (spTo cs cs.length ++ (tk y ++ (101 :: (tk x ++ [32, 119]))))) : List UInt8).toArray⟩ := (str_append _ _).trans (by simp)
      go_wp2_with fail
      refine (ticks_int (1 + a1 % 4) y HY.out _ (by omega)).mono ?_
      rintro e w2 ⟨rfl, ho2⟩
      have HO := Lib.hid (HO.out.trans ho2)
      clear ho2
      go_wp2_with fail
      refine (ticks_int (1 + a0 % 4) x HX.out _ (by omega)).mono ?_
      rintro e w2 ⟨rfl, ho2⟩
      have HO := Lib.hid (HO.out.trans ho2)
      clear ho2
      go_wp2_with fail
      refine (ticks_int (1 + a0 % 4) x HX.out _ (by omega)).mono ?_
      rintro e w2 ⟨rfl, ho2⟩
      have HO := Lib.hid (HO.out.trans ho2)
      clear ho2
      obtain ⟨c', w3, hcv, ho3, hv3⟩ := conv_str B (by rw [HLB.out]; unfold maxLen; omega) w2
      have HO3 := Lib.hid (HO.out.trans ho3)
      have HV3 := Lib.hid hv3
      clear ho3 hv3
      rw [HBV.out] at hcv
      go_wp2_with fail
      refine (lex_plain B _ w3 (HE.out.keep0 HO3.out) HV3.out (by rw [HLB.out]; omega) HNO.out).mono ?_
      rintro e w4 ⟨bs, bl, rfl, ho4, -, -, hs4⟩
      have HO4 := Lib.hid (HO3.out.trans ho4)
      have HS4 := Lib.hid hs4
      clear ho4 hs4 hcv
      go_wp2_with fail
      go_loopw [18, 19, 78] (fun _ _ iv wr => ∃ j : Nat, j ≤ 2 + x + (spTo cs cs.length).length + y + 1 + x + 2 ∧ iv = .int .i64 j ∧ wr = w4) (fun _ _ iv _ => 2 + x + (spTo cs cs.length).length + y + 1 + x + 2 - (intOf iv).toNat)
      case atStart => exact ⟨0, by omega, rfl, rfl⟩
      case round =>
        obtain ⟨j, hj, rfl, rfl⟩ := hrel
        by_cases hjl : j < 2 + x + (spTo cs cs.length).length + y + 1 + x + 2
        · have HA := Lib.hid (at_in bs bl j _ wr HS4.out (by rw [HLEN.out, HLB.out]; omega))
          have H4j := Lib.hid (H4.out j (by rw [HLB.out]; omega))
          by_cases hj2 : 2 ≤ j
          · by_cases hje : j < 2 + x + (spTo cs cs.length).length + y + 1 + x + 2 - 2
            · go_wp2_with fail
              refine HA.out.mono ?_
              rintro e w5 ⟨rfl, rfl⟩
              rw [H4j.out, if_pos (by rw [HLB.out]; omega)]
              go_wp2_with fail
              go_roundw
              case rel => first | exact ⟨j + 1, by omega, by go_num, rfl⟩ | exact ⟨j + 1, by omega, by go_num, trivial⟩
              case measure => simp [intOf]; omega
            · go_wp2_with fail
              refine HA.out.mono ?_
              rintro e w5 ⟨rfl, rfl⟩
              rw [H4j.out, if_neg (by rw [HLB.out]; omega)]
              go_wp2_with fail
              go_roundw
              case rel => first | exact ⟨j + 1, by omega, by go_num, rfl⟩ | exact ⟨j + 1, by omega, by go_num, trivial⟩
              case measure => simp [intOf]; omega
          · go_wp2_with fail
            refine HA.out.mono ?_
            rintro e w5 ⟨rfl, rfl⟩
            rw [H4j.out, if_neg (by omega)]
            go_wp2_with fail
            go_roundw
            case rel => first | exact ⟨j + 1, by omega, by go_num, rfl⟩ | exact ⟨j + 1, by omega, by go_num, trivial⟩
            case measure => simp [intOf]; omega
        · obtain rfl : j = 2 + x + (spTo cs cs.length).length + y + 1 + x + 2 := by omega
          go_wp2_with fail
          go_ret
          exact ⟨rfl, HO4.out⟩
end Go.Proofs.YtpohopmggpiomaaDoor
