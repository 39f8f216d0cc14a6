/-
  redpenlaw22.CheckNil, walked.
-/
import Derived.Test.YtagddjcjapgdaaaGreatDoorNil
import Derived.Deep.RegionHeld3
namespace Go.Proofs.YtagddjcjapgdaaaGreatDoor
open Go.RowKit

set_option maxRecDepth 100000 in
set_option maxHeartbeats 8000000 in
theorem checkNil_walk (s : List UInt8) (nm : ByteArray) (p : Option Addr) (l c : Nat) (p0 p1 : Option Addr) (l0 c0 l1 c1 : Nat) (a2 a3 a4 a5 a6 a7 : Int) (g2 : 0 ≤ a2 ∧ a2 ≤ 255) (g3 : 0 ≤ a3 ∧ a3 ≤ 255) (g4 : 0 ≤ a4 ∧ a4 ≤ 255) (g5 : 0 ≤ a5 ∧ a5 ≤ 255) (g6 : 0 ≤ a6 ∧ a6 ≤ 255) (w : World) (he : EnvL w) :
    Calls Tryz.prog 3 #[.string ⟨s.toArray⟩, .agg #[.string nm, .slice p l c], .agg #[.slice p0 l0 c0, .slice p1 l1 c1, .int .u8 a2, .int .u8 a3, .int .u8 a4, .int .u8 a5, .int .u8 a6, .int .u8 a7]] w fun e w' => e = .returned (.bool true) ∧ Only [] w w' := by
  have HE := Lib.hid he
  have hqa0 := alloc_blk (o' := .cells #[.slice p0 l0 c0, .slice p1 l1 c1, .int .u8 a2, .int .u8 a3, .int .u8 a4, .int .u8 a5, .int .u8 a6, .int .u8 a7] 28) (alloc_new w (.cells #[.string nm, .slice p l c] 24))
  have hqb0 := alloc_new' (w := w.alloc (.cells #[.string nm, .slice p l c] 24)) (b := w.heap.size + 1) (.cells #[.slice p0 l0 c0, .slice p1 l1 c1, .int .u8 a2, .int .u8 a3, .int .u8 a4, .int .u8 a5, .int .u8 a6, .int .u8 a7] 28) (by simp)
  have ho1 : Only [] w ((w.alloc (.cells #[.string nm, .slice p l c] 24)).alloc (.cells #[.slice p0 l0 c0, .slice p1 l1 c1, .int .u8 a2, .int .u8 a3, .int .u8 a4, .int .u8 a5, .int .u8 a6, .int .u8 a7] 28)) := ((Only.refl _ _).alloc _).alloc _
  have HQA := Lib.hid hqa0
  have HQB := Lib.hid hqb0
  have HO1 := Lib.hid ho1
  have HAW := Lib.hid (awake_any _ (HE.out.only ho1 (by simp)))
  clear hqa0 hqb0 ho1 he
  have HOPT : Hid (∀ w', Calls Tryz.prog 6 #[.agg #[.slice p0 l0 c0, .slice p1 l1 c1, .int .u8 a2, .int .u8 a3, .int .u8 a4, .int .u8 a5, .int .u8 a6, .int .u8 a7]] w' fun e w'' => e = .returned (.agg #[.int .i64 (a2 % 10 - 1), .int .i64 (1 + a3 % 4), .int .i64 (min (1 + a3 % 4 + a4 % 70) 64), .int .i64 (a5 % 9), .int .i64 (a6 % 4), .int .i64 (a5 % 5), .bool (bits .and .u8 a7 16 != 0), .bool (bits .and .u8 a7 32 != 0)]) ∧ Only [] w' w'') := Lib.hid fun w' => options_any _ _ p0 p1 l0 c0 l1 c1 rfl rfl a2 a3 a4 a5 a6 a7 g2 g3 g4 g5 g6 w'
  have HFN : Hid (∀ w', Calls Tryz.prog 5 #[.pointer none, .int .i64 1, .agg #[.string nm, .slice p l c], .agg #[.int .i64 (a2 % 10 - 1), .int .i64 (1 + a3 % 4), .int .i64 (min (1 + a3 % 4 + a4 % 70) 64), .int .i64 (a5 % 9), .int .i64 (a6 % 4), .int .i64 (a5 % 5), .bool (bits .and .u8 a7 16 != 0), .bool (bits .and .u8 a7 32 != 0)]] w' fun e w'' => e = .returned (.tuple #[.slice none 0 0, .int .i64 1]) ∧ Only [] w' w'') := Lib.hid fun w' => file_nil _ _ _ _ _ _ _ _ _ _ _ _ _ w'
  clear g2 g3 g4 g5 g6
  go_enter Tryz.func3, Tryz.ntmps3
  go_wp2_with fail
  refine HAW.out.mono ?_
  rintro e w2 ⟨rfl, ho2⟩
  have HO2 := Lib.hid (HO1.out.trans ho2)
  have hqa := ho2.keep HQA.out (by simp)
  have hqb := ho2.keep HQB.out (by simp)
  have r0 : w2.cell? ⟨w.heap.size, 0, none⟩ = some (.string nm) := cell_blk hqa 0
  have r1 : w2.cell? ⟨w.heap.size, 0 + 1, none⟩ = some (.slice p l c) := cell_blk hqa 1
  have r2 : w2.cell? ⟨w.heap.size + 1, 0, none⟩ = some (.slice p0 l0 c0) := cell_blk hqb 0
  have r3 : w2.cell? ⟨w.heap.size + 1, 0 + 1, none⟩ = some (.slice p1 l1 c1) := cell_blk hqb 1
  have r4 : w2.cell? ⟨w.heap.size + 1, 0 + 1 + 1, none⟩ = some (.int .u8 a2) := cell_blk hqb 2
  have r5 : w2.cell? ⟨w.heap.size + 1, 0 + 1 + 1 + 1, none⟩ = some (.int .u8 a3) := cell_blk hqb 3
  have r6 : w2.cell? ⟨w.heap.size + 1, 0 + 1 + 1 + 1 + 1, none⟩ = some (.int .u8 a4) := cell_blk hqb 4
  have r7 : w2.cell? ⟨w.heap.size + 1, 0 + 1 + 1 + 1 + 1 + 1, none⟩ = some (.int .u8 a5) := cell_blk hqb 5
  have r8 : w2.cell? ⟨w.heap.size + 1, 0 + 1 + 1 + 1 + 1 + 1 + 1, none⟩ = some (.int .u8 a6) := cell_blk hqb 6
  have r9 : w2.cell? ⟨w.heap.size + 1, 0 + 1 + 1 + 1 + 1 + 1 + 1 + 1, none⟩ = some (.int .u8 a7) := cell_blk hqb 7
  clear ho2 hqa hqb
  by_cases z1 : (200 : Int) < s.length
  · clear HOPT HFN
    go_wp2_with fail
    go_ret
    exact ⟨rfl, HO2.out⟩
  · by_cases z2 : (300 : Int) < l
    · clear HOPT HFN
      go_wp2_with fail
      go_ret
      exact ⟨rfl, HO2.out⟩
    · have hpd : w2.drew.cell? ⟨w.heap.size, 0, none⟩ = some (.string nm) ∧ w2.drew.cell? ⟨w.heap.size, 0 + 1, none⟩ = some (.slice p l c) ∧ w2.drew.cell? ⟨w.heap.size + 1, 0, none⟩ = some (.slice p0 l0 c0) ∧ w2.drew.cell? ⟨w.heap.size + 1, 0 + 1, none⟩ = some (.slice p1 l1 c1) ∧ w2.drew.cell? ⟨w.heap.size + 1, 0 + 1 + 1, none⟩ = some (.int .u8 a2) ∧ w2.drew.cell? ⟨w.heap.size + 1, 0 + 1 + 1 + 1, none⟩ = some (.int .u8 a3) ∧ w2.drew.cell? ⟨w.heap.size + 1, 0 + 1 + 1 + 1 + 1, none⟩ = some (.int .u8 a4) ∧ w2.drew.cell? ⟨w.heap.size + 1, 0 + 1 + 1 + 1 + 1 + 1, none⟩ = some (.int .u8 a5) ∧ w2.drew.cell? ⟨w.heap.size + 1, 0 + 1 + 1 + 1 + 1 + 1 + 1, none⟩ = some (.int .u8 a6) ∧ w2.drew.cell? ⟨w.heap.size + 1, 0 + 1 + 1 + 1 + 1 + 1 + 1 + 1, none⟩ = some (.int .u8 a7) := ⟨r0, r1, r2, r3, r4, r5, r6, r7, r8, r9⟩
      have hoN : Only [] w2 w2.drew := (Only.refl _ _).drew
      go_wp2_with fail
      go_region_held3 (fun w' => w'.cell? ⟨w.heap.size, 0, none⟩ = some (.string nm) ∧ w'.cell? ⟨w.heap.size, 0 + 1, none⟩ = some (.slice p l c) ∧ w'.cell? ⟨w.heap.size + 1, 0, none⟩ = some (.slice p0 l0 c0) ∧ w'.cell? ⟨w.heap.size + 1, 0 + 1, none⟩ = some (.slice p1 l1 c1) ∧ w'.cell? ⟨w.heap.size + 1, 0 + 1 + 1, none⟩ = some (.int .u8 a2) ∧ w'.cell? ⟨w.heap.size + 1, 0 + 1 + 1 + 1, none⟩ = some (.int .u8 a3) ∧ w'.cell? ⟨w.heap.size + 1, 0 + 1 + 1 + 1 + 1, none⟩ = some (.int .u8 a4) ∧ w'.cell? ⟨w.heap.size + 1, 0 + 1 + 1 + 1 + 1 + 1, none⟩ = some (.int .u8 a5) ∧ w'.cell? ⟨w.heap.size + 1, 0 + 1 + 1 + 1 + 1 + 1 + 1, none⟩ = some (.int .u8 a6) ∧ w'.cell? ⟨w.heap.size + 1, 0 + 1 + 1 + 1 + 1 + 1 + 1 + 1, none⟩ = some (.int .u8 a7)) (first | exact hpd | exact ⟨Only.cell_some (w := w2) (by assumption) r0 (by simp), Only.cell_some (w := w2) (by assumption) r1 (by simp), Only.cell_some (w := w2) (by assumption) r2 (by simp), Only.cell_some (w := w2) (by assumption) r3 (by simp), Only.cell_some (w := w2) (by assumption) r4 (by simp), Only.cell_some (w := w2) (by assumption) r5 (by simp), Only.cell_some (w := w2) (by assumption) r6 (by simp), Only.cell_some (w := w2) (by assumption) r7 (by simp), Only.cell_some (w := w2) (by assumption) r8 (by simp), Only.cell_some (w := w2) (by assumption) r9 (by simp)⟩) (first | (go_at_call 6; refine (HOPT.out _).mono ?_; rintro e wT ⟨rfl, hoT⟩; have hoN : Only [] w2 wT := Only.trans (by assumption) hoT) | (go_at_call 5; refine (HFN.out _).mono ?_; rintro e wU ⟨rfl, hoU⟩; have hoN : Only [] w2 wU := Only.trans (by assumption) hoU))
      have HOU : Hid (Only [] w wU) := Lib.hid (HO2.out.trans (by assumption))
      clear hpd r0 r1 r2 r3 r4 r5 r6 r7 r8 r9 HOPT HFN
      have hsl : s.length ≤ 65536 := by omega
      go_wp2_with fail
      refine (knows_nil _ _).mono ?_
      rintro e wV ⟨rfl, rfl⟩
      go_wp2_with fail
      refine (fix_nil _ _).mono ?_
      rintro e wV ⟨rfl, rfl⟩
      go_wp2_with fail
      refine (foldR_any s _ hsl).mono ?_
      rintro e wV ⟨rfl, ho5⟩
      have HO5 := Lib.hid (HOU.out.trans ho5)
      clear ho5
      go_wp2_with fail
      refine (fold_any s _ hsl).mono ?_
      rintro e wW ⟨rfl, ho6⟩
      have HO6 := Lib.hid (HO5.out.trans ho6)
      clear ho6
      generalize foldU s = X at *
      go_wp2_with fail
      go_ret
      exact ⟨ret_bool (by simp), HO6.out⟩
end Go.Proofs.YtagddjcjapgdaaaGreatDoor
