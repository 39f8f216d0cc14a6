/-
  redpenlaw12.MarkPlain: the walk.
-/
import Derived.Test.YtpohopmggpiomaaDoorLaw0
namespace Go.Proofs.YtpohopmggpiomaaDoor
open Go.RowKit

/-- The pieces of plain lines. -/
def pieceP : Nat → List UInt8
  | 0 => [97] | 1 => [119, 111, 114, 100] | 2 => [49] | 3 => [32, 120] | 4 => [44, 32] | 5 => [46, 10] | 6 => [33, 10, 10] | 7 => [42, 32] | 8 => [35, 32] | 9 => [40] | 10 => [41] | 11 => [38, 97, 109, 112, 59] | 12 => [13, 10] | 13 => [195, 169] | _ => [39]

/-- What the first k numbers put together: of the first 200. -/
def plainTo (cs : List UInt8) : Nat → List UInt8
  | 0 => []
  | k + 1 => if k < 200 then plainTo cs k ++ pieceP (bt cs k % 15).toNat else plainTo cs k

theorem pieceP_len (n : Nat) : (pieceP n).length ≤ 5 := by
  unfold pieceP; split <;> simp

theorem plainTo_len (cs : List UInt8) (k : Nat) : (plainTo cs k).length ≤ 1000 ∧ (plainTo cs k).length ≤ 5 * k := by
  have h : ∀ k, (plainTo cs k).length ≤ 5 * k ∧ (plainTo cs k).length ≤ 5 * 200 := by
    intro k
    induction k with
    | zero => simp [plainTo]
    | succ k ih =>
      rw [plainTo]
      split
      · have := pieceP_len (bt cs k % 15).toNat
        simp only [List.length_append]; omega
      · omega
  exact ⟨(h k).2, (h k).1⟩

theorem plain_tab (n : Nat) (h : n < 15) : ([Value.string ⟨#[97]⟩, .string ⟨#[119, 111, 114, 100]⟩, .string ⟨#[49]⟩, .string ⟨#[32, 120]⟩, .string ⟨#[44, 32]⟩, .string ⟨#[46, 10]⟩, .string ⟨#[33, 10, 10]⟩, .string ⟨#[42, 32]⟩, .string ⟨#[35, 32]⟩, .string ⟨#[40]⟩, .string ⟨#[41]⟩, .string ⟨#[38, 97, 109, 112, 59]⟩, .string ⟨#[13, 10]⟩, .string ⟨#[195, 169]⟩, .string ⟨#[39]⟩] : List Value)[n]? = some (.string ⟨(pieceP n).toArray⟩) := by
  have : n = 0 ∨ n = 1 ∨ n = 2 ∨ n = 3 ∨ n = 4 ∨ n = 5 ∨ n = 6 ∨ n = 7 ∨ n = 8 ∨ n = 9 ∨ n = 10 ∨ n = 11 ∨ n = 12 ∨ n = 13 ∨ n = 14 := by omega
  rcases this with rfl | rfl | rfl | rfl | rfl | rfl | rfl | rfl | rfl | rfl | rfl | rfl | rfl | rfl | rfl <;> rfl

theorem str_append (a b : List UInt8) : (⟨a.toArray⟩ : ByteArray) ++ ⟨b.toArray⟩ = ⟨(a ++ b).toArray⟩ := by
  apply ByteArray.ext; apply Array.ext'
  simp

/-- All of one label: one part. -/
theorem segs_one (n : Nat) (h : 0 < n) : segsTo (List.replicate n 1) n = [(1, 0, n)] := by
  have key : ∀ k, k < n → segsTo (List.replicate n 1) (k + 1) = [(1, 0, k + 1)] := by
    intro k
    induction k with
    | zero => intro hk; rw [segsTo_none _ 0 rfl]; simp [nth, hk]
    | succ k ih =>
      intro hk
      rw [segsTo, ih (by omega)]
      simp [segStep, nth, hk]
  obtain ⟨m, rfl⟩ : ∃ m, n = m + 1 := ⟨n - 1, by omega⟩
  exact key m (by omega)

set_option maxRecDepth 100000 in
set_option maxHeartbeats 1000000 in
theorem plain_walk (cs : List UInt8) (v : Value) (w : World) (hE : Env w) (hv : BytesV w v cs) (hlab : markL P0 (122 :: plainTo cs cs.length) = List.replicate (plainTo cs cs.length).length.succ 1) (hno : ∀ k, k < (122 :: plainTo cs cs.length).length → bt (122 :: plainTo cs cs.length) k ≠ 60) :
    Calls Tryd.prog 3 #[v] w fun e w' => e = .returned (.bool true) ∧ Only [] w w' := by
  have HV := Lib.hid hv
  obtain ⟨p, c, rfl, hc, hm, hk⟩ := hv
  have HE := Lib.hid hE
  have HLAB := Lib.hid hlab
  have HNO := Lib.hid hno
  have HK := Lib.hid hk
  clear hE hlab hno hk
  go_enter Tryd.func3, Tryd.ntmps3
  go_wp2_with (go_at_call 7; refine (awake_any _ HE.out).mono ?_; rintro e w1 ⟨rfl, ho1⟩; have HO1 := Lib.hid ho1; clear ho1)
  go_loopw [3, 4, 5, 13] (fun bv _ _ iv wr => ∃ k : Nat, k ≤ cs.length ∧ iv = .int .i64 k ∧ bv = .string ⟨(plainTo cs k).toArray⟩ ∧ Only [] w wr) (fun _ _ _ iv _ => cs.length - (intOf iv).toNat)
  case atStart => exact ⟨0, by omega, rfl, rfl, HO1.out⟩
  case round =>
    obtain ⟨k, hk, rfl, rfl, ho⟩ := hrel
    have HO := Lib.hid ho
    clear ho
    unfold maxLen at hm
    by_cases hlt : k < cs.length
    · obtain ⟨b, o, rfl, hcb⟩ := HK.out (by omega)
      have c1 := HO.out.cell_some (hcb k hlt) (by simp)
      have hr := bt_range cs k
      by_cases h200 : k < 200
      · have htab := plain_tab (bt cs k % 15).toNat (by omega)
        have hcat := str_append (plainTo cs k) (pieceP (bt cs k % 15).toNat)
        have hpl := (plainTo_len cs k).1
        have hpp := pieceP_len (bt cs k % 15).toNat
        go_wp2_with fail
        go_roundw
        case rel => exact ⟨k + 1, by omega, by go_num, by rw [plainTo, if_pos h200], HO.out.alloc _⟩
        case measure => simp [intOf]; omega
      · go_wp2_with fail
        go_roundw
        case rel => exact ⟨k + 1, by omega, by go_num, by rw [plainTo, if_neg h200], HO.out⟩
        case measure => simp [intOf]; omega
    · obtain rfl : k = cs.length := by omega
      have hcat := str_append [122] (plainTo cs cs.length)
      have hpl := (plainTo_len cs cs.length).1
      obtain ⟨c', w2, hcv, ho2, hv2⟩ := conv_str (122 :: plainTo cs cs.length) (by simp; unfold maxLen; omega) wr
      have HO2 := Lib.hid (HO.out.trans ho2)
      have HV2 := Lib.hid hv2
      clear ho2 hv2
      go_wp2_with fail
      refine (lex_plain (122 :: plainTo cs cs.length) _ w2 (HE.out.keep0 HO2.out) HV2.out (by simp; omega) HNO.out).mono ?_
      rintro e w3 ⟨bs, bl, rfl, ho3, -, -, hs3⟩
      rw [HLAB.out] at hs3
      have HO3 := Lib.hid (HO2.out.trans ho3)
      have HS3 := Lib.hid hs3
      clear ho3 hs3 hcv
      go_wp2_with fail
      refine (segs_any bs bl _ w3 HS3.out).mono ?_
      rintro e w4 ⟨v, rfl, ho4, hv4⟩
      rw [List.length_replicate, segs_one _ (by omega)] at hv4
      obtain ⟨g, cap, rfl, -, hcap, hmem⟩ := segs_mem hv4 (by simp)
      obtain ⟨m0, m1, m2⟩ := hmem 0 _ rfl
      have HO4 := Lib.hid (HO3.out.trans ho4)
      clear hmem hv4 ho4
      simp only [List.length_cons, List.length_nil, Nat.zero_add, Nat.zero_mul] at m0 m1 m2 hcap ⊢
      go_wp2_with fail
      go_ret
      exact ⟨rfl, HO4.out⟩
end Go.Proofs.YtpohopmggpiomaaDoor
