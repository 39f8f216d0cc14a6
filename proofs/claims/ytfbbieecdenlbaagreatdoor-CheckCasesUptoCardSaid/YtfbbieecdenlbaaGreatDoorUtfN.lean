/-
  utf.Next.
-/
import Derived.Test.YtfbbieecdenlbaaGreatDoorUtfW
import Derived.Deep.QuietTactic
import Derived.BigQuiet
namespace Go.Proofs.YtfbbieecdenlbaaGreatDoor
open Go.RowKit

def nextV (r : Int × Nat) : Value := .tuple #[.int .i32 r.1, .int .i64 (r.2 : Int)]

set_option maxRecDepth 100000 in
set_option maxHeartbeats 1000000 in
theorem next_nil (p : Option Addr) (c : Nat) (w : World) : Calls Tryz.prog 69 #[.slice p 0 c] w fun e w' => e = .returned (nextV (nextU [])) ∧ w = w' := by
  go_enter Tryz.func69, Tryz.ntmps69
  go_wp2_with fail
  go_ret2
  exact ⟨rfl, rfl⟩

set_option maxRecDepth 100000 in
set_option maxHeartbeats 2000000 in
theorem next_one (b o c : Nat) (s : List UInt8) (w : World) (hl : s.length ≤ 2097152) (h0 : 0 < s.length) (hcap : s.length ≤ c) (hcell : ∀ j, j < s.length → w.cell? ⟨b, o + j, none⟩ = some (.int .u8 (bt s j))) (hb : bn s 0 < 128) :
    Calls Tryz.prog 69 #[.slice (some ⟨b, o, none⟩) s.length c] w fun e w' => e = .returned (nextV (nextU s)) ∧ w = w' := by
  have hne : s ≠ [] := by intro e; rw [e] at h0; simp at h0
  have hl' : (s.length : Int) ≤ 2097152 := by omega
  have h0' : (0 : Int) < s.length := by omega
  have hc0 : w.cell? ⟨b, o, none⟩ = some (.int .u8 (bn s 0 : Int)) := hcell 0 h0
  have k0 := bn_lt s 0
  have HNE := Lib.hid hne
  have HCELL := Lib.hid hcell
  clear hcell hne
  have HF : Hid (firstV (bn s 0) = .tuple #[.int .i32 (bn s 0 : Int), .int .i64 0, .int .i32 0, .bool true]) := Lib.hid (by unfold firstV; rw [if_pos hb])
  have hle : decide ((s.length : Int) ≤ 0) = false := decide_eq_false (by omega)
  have hd1 : decide ((bn s 0 : Int) < 0) = false := decide_eq_false (by omega)
  have hd2 : decide ((1114111 : Int) < (bn s 0 : Int)) = false := decide_eq_false (by omega)
  have hd3 : decide ((55296 : Int) ≤ (bn s 0 : Int)) = false := decide_eq_false (by omega)
  have HR := Lib.hid (nx_ascii s HNE.out hb)
  go_enter Tryz.func69, Tryz.ntmps69
  go_wp2_with fail
  refine (first_any (bn s 0) w k0).mono ?_
  rw [HF.out]
  rintro e w1 ⟨rfl, rfl⟩
  go_wp2_with fail
  all_goals
    refine wp_loop_rounds 1 ?_
    rw [rounds_succ]
    go_wp2_with fail
    go_ret2
    exact ⟨by rw [HR.out]; simp [nextV], rfl⟩

set_option maxRecDepth 100000 in
set_option maxHeartbeats 2000000 in
theorem next_bad (b o c : Nat) (s : List UInt8) (w : World) (hl : s.length ≤ 2097152) (h0 : 0 < s.length) (_ : s.length ≤ c) (hcell : ∀ j, j < s.length → w.cell? ⟨b, o + j, none⟩ = some (.int .u8 (bt s j))) (hb : 128 ≤ bn s 0) (hb2 : bn s 0 < 194 ∨ 245 ≤ bn s 0) :
    Calls Tryz.prog 69 #[.slice (some ⟨b, o, none⟩) s.length c] w fun e w' => e = .returned (nextV (nextU s)) ∧ w = w' := by
  have hne : s ≠ [] := by intro e; rw [e] at h0; simp at h0
  have hl' : (s.length : Int) ≤ 2097152 := by omega
  have h0' : (0 : Int) < s.length := by omega
  have hc0 : w.cell? ⟨b, o, none⟩ = some (.int .u8 (bn s 0 : Int)) := hcell 0 h0
  have k0 := bn_lt s 0
  have HNE := Lib.hid hne
  have HCELL := Lib.hid hcell
  clear hcell hne
  have HF : Hid (firstV (bn s 0) = .tuple #[.int .i32 0, .int .i64 0, .int .i32 0, .bool false]) := Lib.hid (by unfold firstV; rw [if_neg (by omega), if_neg (by omega), if_neg (by omega), if_neg (by omega)])
  have HR := Lib.hid (nx_bad s HNE.out hb hb2)
  go_enter Tryz.func69, Tryz.ntmps69
  go_wp2_with fail
  refine (first_any (bn s 0) w k0).mono ?_
  rw [HF.out]
  rintro e w1 ⟨rfl, rfl⟩
  go_wp2_with fail
  go_ret2
  exact ⟨by rw [HR.out]; simp [nextV], rfl⟩

set_option maxRecDepth 100000 in
set_option maxHeartbeats 2000000 in
theorem next_two (b o c : Nat) (s : List UInt8) (w : World) (hl : s.length ≤ 2097152) (h0 : 0 < s.length) (hcap : s.length ≤ c) (hcell : ∀ j, j < s.length → w.cell? ⟨b, o + j, none⟩ = some (.int .u8 (bt s j))) (hb : 194 ≤ bn s 0 ∧ bn s 0 < 224) :
    Calls Tryz.prog 69 #[.slice (some ⟨b, o, none⟩) s.length c] w fun e w' => e = .returned (nextV (nextU s)) ∧ w = w' := by
  have hne : s ≠ [] := by intro e; rw [e] at h0; simp at h0
  have hl' : (s.length : Int) ≤ 2097152 := by omega
  have h0' : (0 : Int) < s.length := by omega
  have hc0 : w.cell? ⟨b, o, none⟩ = some (.int .u8 (bn s 0 : Int)) := hcell 0 h0
  have k0 := bn_lt s 0
  have HNE := Lib.hid hne
  have HCELL := Lib.hid hcell
  clear hcell hne
  have HF : Hid (firstV (bn s 0) = .tuple #[.int .i32 ((bn s 0 % 32 : Nat) : Int), .int .i64 1, .int .i32 128, .bool true]) := Lib.hid (by unfold firstV; rw [if_neg (by omega), if_pos (by omega)])
  by_cases hn : 1 < s.length
  · have hle : decide ((s.length : Int) ≤ 1) = false := decide_eq_false (by omega)
    have h2c : (2 : Int) ≤ c := by omega
    have hc1 : w.cell? ⟨b, o + 1, none⟩ = some (.int .u8 (bn s 1 : Int)) := HCELL.out 1 (by omega)
    have a1 := and192 (bn s 1) (bn_lt s 1)
    have d1 := and63 (bn s 1) (bn_lt s 1)
    have k1 := bn_lt s 1
    by_cases q1 : bn s 1 / 64 = 2
    · skip
      have hd1 : decide (((bn s 0 : Int) % 32 * 64 + (bn s 1 : Int) % 64) < 128) = false := decide_eq_false (by omega)
      have hd2 : decide ((1114111 : Int) < ((bn s 0 : Int) % 32 * 64 + (bn s 1 : Int) % 64)) = false := decide_eq_false (by omega)
      have hd3 : decide ((55296 : Int) ≤ ((bn s 0 : Int) % 32 * 64 + (bn s 1 : Int) % 64)) = false := decide_eq_false (by omega)
      have HR := Lib.hid (nx_2 s HNE.out hb hn q1)
      go_enter Tryz.func69, Tryz.ntmps69
      go_wp2_with fail
      refine (first_any (bn s 0) w k0).mono ?_
      rw [HF.out]
      rintro e w1 ⟨rfl, rfl⟩
      go_wp2_with fail
      refine wp_loop_rounds 2 ?_
      rw [rounds_succ]
      go_wp2_with fail
      rw [rounds_succ]
      go_wp2_with fail
      go_ret2
      exact ⟨by rw [HR.out]; simp [nextV], rfl⟩
    · have HR := Lib.hid (nx_2n s HNE.out hb (fun h => by omega))
      go_enter Tryz.func69, Tryz.ntmps69
      go_wp2_with fail
      refine (first_any (bn s 0) w k0).mono ?_
      rw [HF.out]
      rintro e w1 ⟨rfl, rfl⟩
      go_wp2_with fail
      refine wp_loop_rounds 1 ?_
      rw [rounds_succ]
      go_wp2_with fail
      go_ret2
      exact ⟨by rw [HR.out]; simp [nextV], rfl⟩
  · have hle : decide ((s.length : Int) ≤ 1) = true := decide_eq_true (by omega)
    have HR := Lib.hid (nx_2n s HNE.out hb (fun h => by omega))
    go_enter Tryz.func69, Tryz.ntmps69
    go_wp2_with fail
    refine (first_any (bn s 0) w k0).mono ?_
    rw [HF.out]
    rintro e w1 ⟨rfl, rfl⟩
    go_wp2_with fail
    go_ret2
    exact ⟨by rw [HR.out]; simp [nextV], rfl⟩

set_option maxRecDepth 100000 in
set_option maxHeartbeats 2000000 in
theorem next_three (b o c : Nat) (s : List UInt8) (w : World) (hl : s.length ≤ 2097152) (h0 : 0 < s.length) (hcap : s.length ≤ c) (hcell : ∀ j, j < s.length → w.cell? ⟨b, o + j, none⟩ = some (.int .u8 (bt s j))) (hb : 224 ≤ bn s 0 ∧ bn s 0 < 240) :
    Calls Tryz.prog 69 #[.slice (some ⟨b, o, none⟩) s.length c] w fun e w' => e = .returned (nextV (nextU s)) ∧ w = w' := by
  have hne : s ≠ [] := by intro e; rw [e] at h0; simp at h0
  have hl' : (s.length : Int) ≤ 2097152 := by omega
  have h0' : (0 : Int) < s.length := by omega
  have hc0 : w.cell? ⟨b, o, none⟩ = some (.int .u8 (bn s 0 : Int)) := hcell 0 h0
  have k0 := bn_lt s 0
  have HNE := Lib.hid hne
  have HCELL := Lib.hid hcell
  clear hcell hne
  have HF : Hid (firstV (bn s 0) = .tuple #[.int .i32 ((bn s 0 % 16 : Nat) : Int), .int .i64 2, .int .i32 2048, .bool true]) := Lib.hid (by unfold firstV; rw [if_neg (by omega), if_neg (by omega), if_pos (by omega)])
  by_cases hn : 2 < s.length
  · have hle : decide ((s.length : Int) ≤ 2) = false := decide_eq_false (by omega)
    have h2c : (3 : Int) ≤ c := by omega
    have hc1 : w.cell? ⟨b, o + 1, none⟩ = some (.int .u8 (bn s 1 : Int)) := HCELL.out 1 (by omega)
    have a1 := and192 (bn s 1) (bn_lt s 1)
    have d1 := and63 (bn s 1) (bn_lt s 1)
    have k1 := bn_lt s 1
    have hc2 : w.cell? ⟨b, o + 2, none⟩ = some (.int .u8 (bn s 2 : Int)) := HCELL.out 2 (by omega)
    have a2 := and192 (bn s 2) (bn_lt s 2)
    have d2 := and63 (bn s 2) (bn_lt s 2)
    have k2 := bn_lt s 2
    by_cases q1 : bn s 1 / 64 = 2
    · skip
      by_cases q2 : bn s 2 / 64 = 2
      · skip
        have HE := Lib.hid (show ((v3 s : Nat) : Int) = (((bn s 0 : Int) % 16 * 64 + (bn s 1 : Int) % 64) * 64 + (bn s 2 : Int) % 64) by unfold v3; omega)
        have HYES : Hid (2048 ≤ v3 s ∧ (v3 s < 55296 ∨ 57344 ≤ v3 s) → nextU s = (((v3 s : Nat) : Int), 3)) := Lib.hid (fun h => nx_3 s HNE.out hb hn q1 q2 h)
        have HNO : Hid (¬ (2048 ≤ v3 s ∧ (v3 s < 55296 ∨ 57344 ≤ v3 s)) → nextU s = (-1, 1)) := Lib.hid (fun h => nx_3n s HNE.out hb (fun hh => h (by omega)))
        go_enter Tryz.func69, Tryz.ntmps69
        go_wp2_with fail
        refine (first_any (bn s 0) w k0).mono ?_
        rw [HF.out]
        rintro e w1 ⟨rfl, rfl⟩
        go_wp2_with fail
        refine wp_loop_rounds 3 ?_
        rw [rounds_succ]
        go_wp2_with fail
        rw [rounds_succ]
        go_wp2_with fail
        have hE := HE.out
        generalize (((bn s 0 : Int) % 16 * 64 + (bn s 1 : Int) % 64) * 64 + (bn s 2 : Int) % 64) = r at hE ⊢
        clear HE
        have hB : v3 s ≤ 65535 := by unfold v3; omega
        by_cases s1 : r < 2048
        · have hd1 : decide (r < 2048) = true := decide_eq_true (by omega)
          have HR := Lib.hid (HNO.out (by omega))
          clear hE
          rw [rounds_succ]
          go_wp2_with fail
          go_ret2
          exact ⟨by rw [HR.out]; simp [nextV], rfl⟩
        · by_cases s2 : (55296 : Int) ≤ r
          · by_cases s3 : r < 57344
            · have hd1 : decide (r < 2048) = false := decide_eq_false (by omega)
              have hd2 : decide ((1114111 : Int) < r) = false := decide_eq_false (by omega)
              have hd3 : decide ((55296 : Int) ≤ r) = true := decide_eq_true (by omega)
              have hd4 : decide (r < 57344) = true := decide_eq_true (by omega)
              have HR := Lib.hid (HNO.out (by omega))
              clear hE
              rw [rounds_succ]
              go_wp2_with fail
              go_ret2
              exact ⟨by rw [HR.out]; simp [nextV], rfl⟩
            · have hd1 : decide (r < 2048) = false := decide_eq_false (by omega)
              have hd2 : decide ((1114111 : Int) < r) = false := decide_eq_false (by omega)
              have hd3 : decide ((55296 : Int) ≤ r) = true := decide_eq_true (by omega)
              have hd4 : decide (r < 57344) = false := decide_eq_false (by omega)
              have HR := Lib.hid (HYES.out (by omega))
              have HEE := Lib.hid hE
              clear hE
              rw [rounds_succ]
              go_wp2_with fail
              go_ret2
              exact ⟨by rw [HR.out]; simp only [nextV]; rw [HEE.out]; rfl, rfl⟩
          · have hd1 : decide (r < 2048) = false := decide_eq_false (by omega)
            have hd2 : decide ((1114111 : Int) < r) = false := decide_eq_false (by omega)
            have hd3 : decide ((55296 : Int) ≤ r) = false := decide_eq_false (by omega)
            have HR := Lib.hid (HYES.out (by omega))
            have HEE := Lib.hid hE
            clear hE
            rw [rounds_succ]
            go_wp2_with fail
            go_ret2
            exact ⟨by rw [HR.out]; simp only [nextV]; rw [HEE.out]; rfl, rfl⟩
      · have HR := Lib.hid (nx_3n s HNE.out hb (fun h => by omega))
        go_enter Tryz.func69, Tryz.ntmps69
        go_wp2_with fail
        refine (first_any (bn s 0) w k0).mono ?_
        rw [HF.out]
        rintro e w1 ⟨rfl, rfl⟩
        go_wp2_with fail
        refine wp_loop_rounds 2 ?_
        rw [rounds_succ]
        go_wp2_with fail
        rw [rounds_succ]
        go_wp2_with fail
        go_ret2
        exact ⟨by rw [HR.out]; simp [nextV], rfl⟩
    · have HR := Lib.hid (nx_3n s HNE.out hb (fun h => by omega))
      go_enter Tryz.func69, Tryz.ntmps69
      go_wp2_with fail
      refine (first_any (bn s 0) w k0).mono ?_
      rw [HF.out]
      rintro e w1 ⟨rfl, rfl⟩
      go_wp2_with fail
      refine wp_loop_rounds 1 ?_
      rw [rounds_succ]
      go_wp2_with fail
      go_ret2
      exact ⟨by rw [HR.out]; simp [nextV], rfl⟩
  · have hle : decide ((s.length : Int) ≤ 2) = true := decide_eq_true (by omega)
    have HR := Lib.hid (nx_3n s HNE.out hb (fun h => by omega))
    go_enter Tryz.func69, Tryz.ntmps69
    go_wp2_with fail
    refine (first_any (bn s 0) w k0).mono ?_
    rw [HF.out]
    rintro e w1 ⟨rfl, rfl⟩
    go_wp2_with fail
    go_ret2
    exact ⟨by rw [HR.out]; simp [nextV], rfl⟩

set_option maxRecDepth 100000 in
set_option maxHeartbeats 2000000 in
theorem next_four (b o c : Nat) (s : List UInt8) (w : World) (hl : s.length ≤ 2097152) (h0 : 0 < s.length) (hcap : s.length ≤ c) (hcell : ∀ j, j < s.length → w.cell? ⟨b, o + j, none⟩ = some (.int .u8 (bt s j))) (hb : 240 ≤ bn s 0 ∧ bn s 0 < 245) :
    Calls Tryz.prog 69 #[.slice (some ⟨b, o, none⟩) s.length c] w fun e w' => e = .returned (nextV (nextU s)) ∧ w = w' := by
  have hne : s ≠ [] := by intro e; rw [e] at h0; simp at h0
  have hl' : (s.length : Int) ≤ 2097152 := by omega
  have h0' : (0 : Int) < s.length := by omega
  have hc0 : w.cell? ⟨b, o, none⟩ = some (.int .u8 (bn s 0 : Int)) := hcell 0 h0
  have k0 := bn_lt s 0
  have HNE := Lib.hid hne
  have HCELL := Lib.hid hcell
  clear hcell hne
  have HF : Hid (firstV (bn s 0) = .tuple #[.int .i32 ((bn s 0 % 8 : Nat) : Int), .int .i64 3, .int .i32 65536, .bool true]) := Lib.hid (by unfold firstV; rw [if_neg (by omega), if_neg (by omega), if_neg (by omega), if_pos (by omega)])
  by_cases hn : 3 < s.length
  · have hle : decide ((s.length : Int) ≤ 3) = false := decide_eq_false (by omega)
    have h2c : (4 : Int) ≤ c := by omega
    have hc1 : w.cell? ⟨b, o + 1, none⟩ = some (.int .u8 (bn s 1 : Int)) := HCELL.out 1 (by omega)
    have a1 := and192 (bn s 1) (bn_lt s 1)
    have d1 := and63 (bn s 1) (bn_lt s 1)
    have k1 := bn_lt s 1
    have hc2 : w.cell? ⟨b, o + 2, none⟩ = some (.int .u8 (bn s 2 : Int)) := HCELL.out 2 (by omega)
    have a2 := and192 (bn s 2) (bn_lt s 2)
    have d2 := and63 (bn s 2) (bn_lt s 2)
    have k2 := bn_lt s 2
    have hc3 : w.cell? ⟨b, o + 3, none⟩ = some (.int .u8 (bn s 3 : Int)) := HCELL.out 3 (by omega)
    have a3 := and192 (bn s 3) (bn_lt s 3)
    have d3 := and63 (bn s 3) (bn_lt s 3)
    have k3 := bn_lt s 3
    by_cases q1 : bn s 1 / 64 = 2
    · skip
      by_cases q2 : bn s 2 / 64 = 2
      · skip
        by_cases q3 : bn s 3 / 64 = 2
        · skip
          have HE := Lib.hid (show ((v4 s : Nat) : Int) = ((((bn s 0 : Int) % 8 * 64 + (bn s 1 : Int) % 64) * 64 + (bn s 2 : Int) % 64) * 64 + (bn s 3 : Int) % 64) by unfold v4; omega)
          have HYES : Hid (65536 ≤ v4 s ∧ v4 s ≤ 1114111 → nextU s = (((v4 s : Nat) : Int), 4)) := Lib.hid (fun h => nx_4 s HNE.out hb hn q1 q2 q3 h)
          have HNO : Hid (¬ (65536 ≤ v4 s ∧ v4 s ≤ 1114111) → nextU s = (-1, 1)) := Lib.hid (fun h => nx_4n s HNE.out hb (fun hh => h (by omega)))
          go_enter Tryz.func69, Tryz.ntmps69
          go_wp2_with fail
          refine (first_any (bn s 0) w k0).mono ?_
          rw [HF.out]
          rintro e w1 ⟨rfl, rfl⟩
          go_wp2_with fail
          refine wp_loop_rounds 4 ?_
          rw [rounds_succ]
          go_wp2_with fail
          rw [rounds_succ]
          go_wp2_with fail
          rw [rounds_succ]
          go_wp2_with fail
          have hE := HE.out
          generalize ((((bn s 0 : Int) % 8 * 64 + (bn s 1 : Int) % 64) * 64 + (bn s 2 : Int) % 64) * 64 + (bn s 3 : Int) % 64) = r at hE ⊢
          clear HE
          by_cases s1 : r < 65536
          · have hd1 : decide (r < 65536) = true := decide_eq_true (by omega)
            have HR := Lib.hid (HNO.out (by omega))
            clear hE
            rw [rounds_succ]
            go_wp2_with fail
            go_ret2
            exact ⟨by rw [HR.out]; simp [nextV], rfl⟩
          · by_cases s2 : (1114111 : Int) < r
            · have hd1 : decide (r < 65536) = false := decide_eq_false (by omega)
              have hd2 : decide ((1114111 : Int) < r) = true := decide_eq_true (by omega)
              have HR := Lib.hid (HNO.out (by omega))
              clear hE
              rw [rounds_succ]
              go_wp2_with fail
              go_ret2
              exact ⟨by rw [HR.out]; simp [nextV], rfl⟩
            · have hd1 : decide (r < 65536) = false := decide_eq_false (by omega)
              have hd2 : decide ((1114111 : Int) < r) = false := decide_eq_false (by omega)
              have hd3 : decide ((55296 : Int) ≤ r) = true := decide_eq_true (by omega)
              have hd4 : decide (r < 57344) = false := decide_eq_false (by omega)
              have HR := Lib.hid (HYES.out (by omega))
              have HEE := Lib.hid hE
              clear hE
              rw [rounds_succ]
              go_wp2_with fail
              go_ret2
              exact ⟨by rw [HR.out]; simp only [nextV]; rw [HEE.out]; rfl, rfl⟩
        · have HR := Lib.hid (nx_4n s HNE.out hb (fun h => by omega))
          go_enter Tryz.func69, Tryz.ntmps69
          go_wp2_with fail
          refine (first_any (bn s 0) w k0).mono ?_
          rw [HF.out]
          rintro e w1 ⟨rfl, rfl⟩
          go_wp2_with fail
          refine wp_loop_rounds 3 ?_
          rw [rounds_succ]
          go_wp2_with fail
          rw [rounds_succ]
          go_wp2_with fail
          rw [rounds_succ]
          go_wp2_with fail
          go_ret2
          exact ⟨by rw [HR.out]; simp [nextV], rfl⟩
      · have HR := Lib.hid (nx_4n s HNE.out hb (fun h => by omega))
        go_enter Tryz.func69, Tryz.ntmps69
        go_wp2_with fail
        refine (first_any (bn s 0) w k0).mono ?_
        rw [HF.out]
        rintro e w1 ⟨rfl, rfl⟩
        go_wp2_with fail
        refine wp_loop_rounds 2 ?_
        rw [rounds_succ]
        go_wp2_with fail
        rw [rounds_succ]
        go_wp2_with fail
        go_ret2
        exact ⟨by rw [HR.out]; simp [nextV], rfl⟩
    · have HR := Lib.hid (nx_4n s HNE.out hb (fun h => by omega))
      go_enter Tryz.func69, Tryz.ntmps69
      go_wp2_with fail
      refine (first_any (bn s 0) w k0).mono ?_
      rw [HF.out]
      rintro e w1 ⟨rfl, rfl⟩
      go_wp2_with fail
      refine wp_loop_rounds 1 ?_
      rw [rounds_succ]
      go_wp2_with fail
      go_ret2
      exact ⟨by rw [HR.out]; simp [nextV], rfl⟩
  · have hle : decide ((s.length : Int) ≤ 3) = true := decide_eq_true (by omega)
    have HR := Lib.hid (nx_4n s HNE.out hb (fun h => by omega))
    go_enter Tryz.func69, Tryz.ntmps69
    go_wp2_with fail
    refine (first_any (bn s 0) w k0).mono ?_
    rw [HF.out]
    rintro e w1 ⟨rfl, rfl⟩
    go_wp2_with fail
    go_ret2
    exact ⟨by rw [HR.out]; simp [nextV], rfl⟩
end Go.Proofs.YtfbbieecdenlbaaGreatDoor
