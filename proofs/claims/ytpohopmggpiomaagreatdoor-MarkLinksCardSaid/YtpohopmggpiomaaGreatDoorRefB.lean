/-
  redpenref10: brackets; a text without ticks, pointed brackets, backslashes.
-/
import Derived.Test.YtpohopmggpiomaaGreatDoorRefS
import Derived.Test.YtpohopmggpiomaaGreatDoorRefA
import Derived.Test.YtpohopmggpiomaaGreatDoorMarkI
namespace Go.Proofs.YtpohopmggpiomaaGreatDoor
open Go.RowKit

def optI : Option Nat → Int
  | some k => k
  | none => -1

theorem optI_some {o : Option Nat} {m : Nat} {i : Int} (h : o = some m) (hm : i = (m : Int)) : Ending.returned (.int .i64 i) = Ending.returned (.int .i64 (optI o)) := by subst h hm; rfl
theorem optI_none {o : Option Nat} (h : o = none) : Ending.returned (.int .i64 (-1)) = Ending.returned (.int .i64 (optI o)) := by subst h; rfl

set_option maxRecDepth 100000 in
set_option maxHeartbeats 800000 in
theorem rbracket_any (s : ByteArray) (at_ : Nat) (w : World) (hs : s.size ≤ 1099511627776) (hat : at_ ≤ s.size + 1) :
    Calls Tryz.prog 39 #[.string s, .int .i64 at_, .int .u8 40, .int .u8 41] w fun e w' => e = .returned (.int .i64 (optI (shutL s.data.toList at_ s.size))) ∧ w = w' := by
  have hl : (s.size : Int) ≤ 1099511627776 := by omega
  clear hs
  go_enter Tryz.func39, Tryz.ntmps39
  go_wp2
  go_loopw [1, 9, 10] (fun v dv _ wr => ∃ k deep : Nat, k ≤ s.size + 1 ∧ 1 ≤ deep ∧ deep ≤ 32 ∧ v = .int .i64 k ∧ dv = .int .i64 deep ∧ shutL s.data.toList at_ s.size = shutN s.data.toList s.size (s.size + 2 - k) k deep ∧ w = wr) (fun v _ _ _ => s.size + 1 - (intOf v).toNat)
  case atStart => exact ⟨at_, 1, by omega, by omega, by omega, rfl, rfl, shutN_fuel _ _ _ _ _ (by omega) _ (by omega), rfl⟩
  case round =>
    obtain ⟨k, deep, hk, hd1, hd2, rfl, rfl, hrun, rfl⟩ := hrel
    have HR := Lib.hid hrun
    clear hrun
    by_cases hlt : k < s.size
    · have hb := bt_str hlt
      have hf : s.size + 2 - k = (s.size + 1 - k) + 1 := by omega
      have HF := Lib.hid hf
      clear hf
      by_cases h92 : bt s.data.toList k = 92
      · have h92' : (bt s.data.toList k == 92) = true := by simp [h92]
        go_wp2
        go_roundw
        case rel => exact ⟨k + 1 + 1, deep, by omega, hd1, hd2, by go_num, rfl, by rw [HR.out, HF.out, shutN, if_pos hlt, if_pos h92]; exact shutN_fuel _ _ _ _ _ (by omega) _ (by omega), trivial⟩
        case measure => simp [intOf]; omega
      · have h92' : (bt s.data.toList k == 92) = false := by simpa using h92
        by_cases h40 : bt s.data.toList k = 40
        · have h40' : (bt s.data.toList k == 40) = true := by simp [h40]
          have h41' : (bt s.data.toList k == 41) = false := by simp [h40]
          by_cases h32 : deep = 32
          · subst h32
            go_wp2
            go_ret
            exact ⟨optI_none (by rw [HR.out, HF.out, shutN, if_pos hlt, if_neg h92, if_pos h40, if_pos (by omega)]), rfl⟩
          · have h32' : decide ((32 : Int) < (deep : Int) + 1) = false := by simp; omega
            go_wp2
            go_roundw
            case rel => exact ⟨k + 1, deep + 1, by omega, by omega, by omega, by go_num, by go_num, by rw [HR.out, HF.out, shutN, if_pos hlt, if_neg h92, if_pos h40, if_neg (by omega)]; exact shutN_fuel _ _ _ _ _ (by omega) _ (by omega), trivial⟩
            case measure => simp [intOf]; omega
        · have h40' : (bt s.data.toList k == 40) = false := by simpa using h40
          by_cases h41 : bt s.data.toList k = 41
          · have h41' : (bt s.data.toList k == 41) = true := by simp [h41]
            obtain ⟨dp, rfl⟩ : ∃ dp, deep = dp + 1 := ⟨deep - 1, by omega⟩
            by_cases h1 : dp = 0
            · subst h1
              go_wp2
              go_ret
              exact ⟨optI_some (by rw [HR.out, HF.out, shutN, if_pos hlt, if_neg h92, if_neg h40, if_pos h41, if_pos rfl]) (by omega), rfl⟩
            · have h1' : ((dp : Int) == 0) = false := by simpa using h1
              go_wp2
              go_roundw
              case rel => exact ⟨k + 1, dp, by omega, by omega, by omega, by go_num, rfl, by rw [HR.out, HF.out, shutN, if_pos hlt, if_neg h92, if_neg h40, if_pos h41, if_neg (by omega), show dp + 1 - 1 = dp from rfl]; exact shutN_fuel _ _ _ _ _ (by omega) _ (by omega), trivial⟩
              case measure => simp [intOf]; omega
          · have h41' : (bt s.data.toList k == 41) = false := by simpa using h41
            go_wp2
            go_roundw
            case rel => exact ⟨k + 1, deep, by omega, hd1, hd2, by go_num, rfl, by rw [HR.out, HF.out, shutN, if_pos hlt, if_neg h92, if_neg h40, if_neg h41]; exact shutN_fuel _ _ _ _ _ (by omega) _ (by omega), trivial⟩
            case measure => simp [intOf]; omega
    · go_wp2
      go_ret
      exact ⟨optI_none (by rw [HR.out]; cases hq : s.size + 2 - k with | zero => rfl | succ q => rw [shutN, if_neg hlt]), rfl⟩

theorem rbracket_int (s : ByteArray) (i : Int) (at_ : Nat) (hi : i = (at_ : Int)) (w : World) (hs : s.size ≤ 1099511627776) (hat : at_ ≤ s.size + 1) :
    Calls Tryz.prog 39 #[.string s, .int .i64 i, .int .u8 40, .int .u8 41] w fun e w' => e = .returned (.int .i64 (optI (shutL s.data.toList at_ s.size))) ∧ w = w' := by
  subst hi; exact rbracket_any s at_ w hs hat

theorem put_int (bl n : Nat) (x i' : Int) (i j : Nat) (hi' : i' = (i : Int)) (L : List Int) (hn : L.length = n) (w : World) (h : LabAt w bl L) (hi : (i : Int) ≤ 4611686018427387904) (hj : (j : Int) ≤ 4611686018427387904) :
    Calls Tryz.prog 20 #[.slice (some ⟨bl, 0, none⟩) n n, .int .u8 x, .int .i64 i', .int .i64 j] w fun e w' => e = .returned (.tuple #[]) ∧ Only [bl] w w' ∧ LabAt w' bl (putR L i j x) := by
  subst hi' hn; exact put_any bl x i j L w h hi hj

/-- None of the signs that the walk leaves out. -/
def Calm (l : List UInt8) : Prop := ∀ k, k < l.length → bt l k ≠ 92 ∧ bt l k ≠ 96 ∧ bt l k ≠ 60

set_option maxRecDepth 100000 in
set_option maxHeartbeats 1000000 in
theorem rtext_any (bl : Nat) (P : Nat → List Int → Nat × List Int) (s : ByteArray) (at_ : Nat) (L : List Int) (w : World) (h : LabAt w bl L) (hL : L.length = s.size) (hat : at_ ≤ s.size) (hcalm : Calm s.data.toList) (hP : POk P s.data.toList s.size) :
    Calls Tryz.prog 25 #[labV bl L, .string s, .int .i64 at_] w fun e w' => e = .returned (.tuple #[]) ∧ Only [bl] w w' ∧ LabAt w' bl (inlL P s.data.toList at_ s.size L) := by
  have hlen : s.data.toList.length = s.size := by simp
  have hl : (s.size : Int) ≤ 65536 := by have := h.1; omega
  have HLL := Lib.hid hL
  have HLEN := Lib.hid hlen
  have HCALM := Lib.hid hcalm
  have HP := Lib.hid hP
  have H := Lib.hid h
  clear hlen hcalm hP hL h
  go_enter Tryz.func25, Tryz.ntmps25
  go_wp2
  go_loopw [2, 6, 7, 8, 9, 10, 11, 12, 13, 14] (fun v _ _ _ _ _ _ _ _ _ wr => ∃ (k : Nat) (L' : List Int), k ≤ s.size ∧ v = .int .i64 k ∧ L'.length = L.length ∧ inlL P s.data.toList at_ s.size L = inlL P s.data.toList k s.size L' ∧ Only [bl] w wr ∧ LabAt wr bl L') (fun v _ _ _ _ _ _ _ _ _ _ => s.size - (intOf v).toNat)
  case atStart => exact ⟨at_, L, hat, rfl, rfl, rfl, Only.refl _ _, H.out⟩
  case round =>
    obtain ⟨k, L', hk, rfl, hL', hrun, ho, hlab⟩ := hrel
    have HR := Lib.hid hrun
    have HO := Lib.hid ho
    have HLAB := Lib.hid hlab
    have HLL' := Lib.hid hL'
    clear hrun ho hlab hL'
    by_cases hlt : k < s.size
    · have hb := bt_str hlt
      obtain ⟨n92, n96, n60⟩ := HCALM.out k (by rw [HLEN.out]; exact hlt)
      have n92' : (bt s.data.toList k == 92) = false := by simpa using n92
      have n96' : (bt s.data.toList k == 96) = false := by simpa using n96
      have n60' : (bt s.data.toList k == 60) = false := by simpa using n60
      have hstep : ∀ k' L'', inlStep P s.data.toList s.size k L' = (k', L'') → inlL P s.data.toList k s.size L' = inlL P s.data.toList k' s.size L'' := by
        intro k' L'' e
        have hbd := inlStep_bound HP.out k L' hlt
        rw [e] at hbd
        unfold inlL
        obtain ⟨d, hd⟩ : ∃ d, s.size - k = d + 1 := ⟨s.size - k - 1, by omega⟩
        rw [hd, inlN, if_pos hlt, e]
        exact inlN_fuel HP.out _ _ _ (by simp only at hbd; omega) _ (by omega)
      have HSTEP := Lib.hid hstep
      have N := Lib.hid (show bt s.data.toList k ≠ 92 ∧ bt s.data.toList k ≠ 96 ∧ bt s.data.toList k ≠ 60 from ⟨n92, n96, n60⟩)
      clear hstep n92 n96 n60
      have A := Lib.hid (at_any s ⟨#[93, 40]⟩ k wr (by omega) (by decide) (by omega))
      by_cases hat2 : bt s.data.toList k = 93 ∧ k + 1 < s.size ∧ bt s.data.toList (k + 1) = 40
      · have e2 : atB s k ⟨#[93, 40]⟩ = true := by rw [atB_two]; simp [hat2.1, hat2.2.1, hat2.2.2]
        have BR := Lib.hid (rbracket_int s ((k : Int) + 2) (k + 2) (by omega) wr (by omega) (by omega))
        cases hsh : shutL s.data.toList (k + 2) s.size with
        | none =>
          have HS := Lib.hid hsh
          clear hsh
          go_wp2_with fail
          refine A.out.mono ?_
          rintro e w1 ⟨rfl, rfl⟩
          rw [e2]
          go_wp2_with fail
          refine BR.out.mono ?_
          rintro e w1 ⟨rfl, rfl⟩
          rw [HS.out, optI]
          go_wp2_with fail
          go_roundw
          case rel => exact ⟨k + 1, L', by omega, by go_num, HLL'.out, by rw [HR.out]; exact HSTEP.out _ _ (by rw [inlStep, if_neg (fun h => N.out.1 h.1), if_neg N.out.2.1, if_pos hat2, HS.out]), HO.out, HLAB.out⟩
          case measure => simp [intOf]; omega
        | some e =>
          have hbd := shutN_bound _ _ _ _ _ _ hsh
          have HS := Lib.hid hsh
          clear hsh
          have PUT := Lib.hid (put_int bl L.length 2 ((k : Int) + 1) (k + 1) e (by omega) L' HLL'.out wr HLAB.out (by omega) (by omega))
          go_wp2_with fail
          refine A.out.mono ?_
          rintro e0 w1 ⟨rfl, rfl⟩
          rw [e2]
          go_wp2_with fail
          refine BR.out.mono ?_
          rintro e0 w1 ⟨rfl, rfl⟩
          rw [HS.out, optI]
          go_wp2_with fail
          refine PUT.out.mono ?_
          rintro e0 w1 ⟨rfl, ho1, hlab1⟩
          have HO1 := Lib.hid (HO.out.trans ho1)
          have HLAB1 := Lib.hid hlab1
          clear ho1 hlab1
          go_wp2_with fail
          go_roundw
          case rel => exact ⟨e, putR L' (k + 1) e 2, by omega, by go_num, by rw [putR_length]; exact HLL'.out, by rw [HR.out]; exact HSTEP.out _ _ (by rw [inlStep, if_neg (fun h => N.out.1 h.1), if_neg N.out.2.1, if_pos hat2, HS.out]), HO1.out, HLAB1.out⟩
          case measure => simp [intOf]; omega
      · have e2 : atB s k ⟨#[93, 40]⟩ = false := by
          rw [atB_two, Bool.eq_false_iff]
          intro h
          rw [Bool.and_eq_true, Bool.and_eq_true, decide_eq_true_iff, beq_iff_eq, beq_iff_eq] at h
          exact hat2 ⟨h.2.1, h.1, h.2.2⟩
        have HN := Lib.hid hat2
        clear hat2
        go_wp2_with fail
        refine A.out.mono ?_
        rintro e w1 ⟨rfl, rfl⟩
        rw [e2]
        go_wp2_with fail
        go_roundw
        case rel => exact ⟨k + 1, L', by omega, by go_num, HLL'.out, by rw [HR.out]; exact HSTEP.out _ _ (by rw [inlStep, if_neg (fun h => N.out.1 h.1), if_neg N.out.2.1, if_neg HN.out, if_neg N.out.2.2]), HO.out, HLAB.out⟩
        case measure => simp [intOf]; omega
    · obtain rfl : k = s.size := by omega
      go_wp2
      go_end0
      refine ⟨rfl, HO.out, ?_⟩
      rw [HR.out]
      have : inlL P s.data.toList s.size s.size L' = L' := by unfold inlL; rw [Nat.sub_self, inlN]
      rw [this]
      exact HLAB.out
end Go.Proofs.YtpohopmggpiomaaGreatDoor
