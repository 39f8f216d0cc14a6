/-
  utf.first, utf.Next.
-/
import Derived.Test.YtfbbieecdenlbaaGreatDoorUtfP
import Derived.Test.YtfbbieecdenlbaaGreatDoorLabel
import Derived.Test.YtfbbieecdenlbaaGreatDoorRow
import Derived.Laws.BitsAllLaws
namespace Go.Proofs.YtfbbieecdenlbaaGreatDoor
open Go.RowKit

theorem results_tmp4 {fn : Func} {t u v x : Tmp} (h : fn.results = #[.tmp t, .tmp u, .tmp v, .tmp x]) (tmps : Array Value) (P : Program) (w : World) :
    (results fn tmps).run P w = .ok (.tuple #[tmps.getD t undef, tmps.getD u undef, tmps.getD v undef, tmps.getD x undef]) w := by
  simp [results, h]

theorem and31 (n : Nat) (h : n < 256) : bits .and .u8 (n : Int) 31 = ((n % 32 : Nat) : Int) := by
  have hh : ∀ x : Fin 256, bits .and .u8 (x.val : Int) 31 = ((x.val % 32 : Nat) : Int) := by decide +kernel
  exact hh ⟨n, h⟩
theorem and15 (n : Nat) (h : n < 256) : bits .and .u8 (n : Int) 15 = ((n % 16 : Nat) : Int) := by
  have hh : ∀ x : Fin 256, bits .and .u8 (x.val : Int) 15 = ((x.val % 16 : Nat) : Int) := by decide +kernel
  exact hh ⟨n, h⟩
theorem and7 (n : Nat) (h : n < 256) : bits .and .u8 (n : Int) 7 = ((n % 8 : Nat) : Int) := by
  have hh : ∀ x : Fin 256, bits .and .u8 (x.val : Int) 7 = ((x.val % 8 : Nat) : Int) := by decide +kernel
  exact hh ⟨n, h⟩
theorem and63 (n : Nat) (h : n < 256) : bits .and .u8 (n : Int) 63 = ((n % 64 : Nat) : Int) := by
  have hh : ∀ x : Fin 256, bits .and .u8 (x.val : Int) 63 = ((x.val % 64 : Nat) : Int) := by decide +kernel
  exact hh ⟨n, h⟩
theorem and192 (n : Nat) (h : n < 256) : bits .and .u8 (n : Int) 192 = ((n / 64 * 64 : Nat) : Int) := by
  have hh : ∀ x : Fin 256, bits .and .u8 (x.val : Int) 192 = ((x.val / 64 * 64 : Nat) : Int) := by decide +kernel
  exact hh ⟨n, h⟩

def firstV (c : Nat) : Value :=
  if c < 128 then .tuple #[.int .i32 c, .int .i64 0, .int .i32 0, .bool true]
  else if 194 ≤ c ∧ c < 224 then .tuple #[.int .i32 ((c % 32 : Nat) : Int), .int .i64 1, .int .i32 128, .bool true]
  else if 224 ≤ c ∧ c < 240 then .tuple #[.int .i32 ((c % 16 : Nat) : Int), .int .i64 2, .int .i32 2048, .bool true]
  else if 240 ≤ c ∧ c < 245 then .tuple #[.int .i32 ((c % 8 : Nat) : Int), .int .i64 3, .int .i32 65536, .bool true]
  else .tuple #[.int .i32 0, .int .i64 0, .int .i32 0, .bool false]

theorem first_any (c : Nat) (w : World) (hc : c < 256) :
    Calls Tryz.prog 110 #[.int .u8 (c : Int)] w fun e w' => e = .returned (firstV c) ∧ w = w' := by
  have h0 : (c : Int) ≤ 255 := by omega
  have a31 := and31 c hc
  have a15 := and15 c hc
  have a7 := and7 c hc
  have HC := Lib.hid hc
  clear hc
  by_cases b1 : (c : Int) < 128
  · have hv : firstV c = .tuple #[.int .i32 c, .int .i64 0, .int .i32 0, .bool true] := by unfold firstV; rw [if_pos (by omega)]
    rw [hv]
    go_enter Tryz.func110, Tryz.ntmps110
    go_wp2_with fail
    refine bodyPost_ret (results_tmp4 rfl _ _ _) rfl ?_
    exact ⟨rfl, rfl⟩
  · by_cases b2 : (194 : Int) ≤ c <;> by_cases b3 : (c : Int) < 224 <;> by_cases b4 : (224 : Int) ≤ c <;> by_cases b5 : (c : Int) < 240 <;> by_cases b6 : (240 : Int) ≤ c <;> by_cases b7 : (c : Int) < 245
    all_goals
      first
      | (exfalso; omega)
      | (have hv : firstV c = .tuple #[.int .i32 ((c % 32 : Nat) : Int), .int .i64 1, .int .i32 128, .bool true] := by unfold firstV; rw [if_neg (by omega), if_pos (by omega)]
         rw [hv]
         go_enter Tryz.func110, Tryz.ntmps110
         go_wp2_with fail
         refine bodyPost_ret (results_tmp4 rfl _ _ _) rfl ?_
         exact ⟨rfl, rfl⟩)
      | (have hv : firstV c = .tuple #[.int .i32 ((c % 16 : Nat) : Int), .int .i64 2, .int .i32 2048, .bool true] := by unfold firstV; rw [if_neg (by omega), if_neg (by omega), if_pos (by omega)]
         rw [hv]
         go_enter Tryz.func110, Tryz.ntmps110
         go_wp2_with fail
         refine bodyPost_ret (results_tmp4 rfl _ _ _) rfl ?_
         exact ⟨rfl, rfl⟩)
      | (have hv : firstV c = .tuple #[.int .i32 ((c % 8 : Nat) : Int), .int .i64 3, .int .i32 65536, .bool true] := by unfold firstV; rw [if_neg (by omega), if_neg (by omega), if_neg (by omega), if_pos (by omega)]
         rw [hv]
         go_enter Tryz.func110, Tryz.ntmps110
         go_wp2_with fail
         refine bodyPost_ret (results_tmp4 rfl _ _ _) rfl ?_
         exact ⟨rfl, rfl⟩)
      | (have hv : firstV c = .tuple #[.int .i32 0, .int .i64 0, .int .i32 0, .bool false] := by unfold firstV; rw [if_neg (by omega), if_neg (by omega), if_neg (by omega), if_neg (by omega)]
         rw [hv]
         go_enter Tryz.func110, Tryz.ntmps110
         go_wp2_with fail
         refine bodyPost_ret (results_tmp4 rfl _ _ _) rfl ?_
         exact ⟨rfl, rfl⟩)
end Go.Proofs.YtfbbieecdenlbaaGreatDoor
