/-
  fold: letters.
-/
import Derived.Test.YtfbbieecdenlbaaGreatDoorUtfP
import Derived.Test.YtfbbieecdenlbaaGreatDoorLabel
import Derived.Deep.QuietTactic
import Derived.BigQuiet
namespace Go.Proofs.YtfbbieecdenlbaaGreatDoor
open Go.RowKit

set_option maxRecDepth 100000 in
theorem great_any (r : Int) (w : World) : Calls Tryz.prog 27 #[.int .i32 r] w fun e w' => e = .returned (.bool (greatU r)) ∧ w = w' := by
  by_cases a1 : 65 ≤ r <;> by_cases a2 : r ≤ 90 <;> by_cases a3 : 192 ≤ r <;> by_cases a4 : r ≤ 222 <;> cases a5 : (r == 215)
  all_goals
    first
    | (exfalso; omega)
    | (go_enter Tryz.func27, Tryz.ntmps27
       go_wp2
       go_ret
       exact ⟨ret_bool (by simp [greatU, a1, a2, a3, a4, a5, bne]), rfl⟩)

set_option maxRecDepth 100000 in
theorem small_anyU (r : Int) (w : World) : Calls Tryz.prog 28 #[.int .i32 r] w fun e w' => e = .returned (.bool (smallU r)) ∧ w = w' := by
  by_cases a1 : 97 ≤ r <;> by_cases a2 : r ≤ 122 <;> by_cases a3 : 224 ≤ r <;> by_cases a4 : r ≤ 254 <;> cases a5 : (r == 247)
  all_goals
    first
    | (exfalso; omega)
    | (go_enter Tryz.func28, Tryz.ntmps28
       go_wp2
       go_ret
       exact ⟨ret_bool (by simp [smallU, a1, a2, a3, a4, a5, bne]), rfl⟩)

theorem down_any (r : Int) (w : World) (h0 : -1 ≤ r) (h1 : r ≤ 1114111) : Calls Tryz.prog 24 #[.int .i32 r] w fun e w' => e = .returned (.int .i32 (downU r)) ∧ w = w' := by
  have G := Lib.hid (great_any r w)
  cases hg : greatU r
  all_goals
    (rw [hg] at G
     go_enter Tryz.func24, Tryz.ntmps24
     go_wp2_with fail
     refine G.out.mono ?_
     rintro e w1 ⟨rfl, rfl⟩
     go_wp2_with fail
     go_ret
     exact ⟨ret_int (by simp [downU, hg]), rfl⟩)

theorem up_any (r : Int) (w : World) (h0 : -1 ≤ r) (h1 : r ≤ 1114111) : Calls Tryz.prog 23 #[.int .i32 r] w fun e w' => e = .returned (.int .i32 (upU r)) ∧ w = w' := by
  have G := Lib.hid (small_anyU r w)
  cases hg : smallU r
  all_goals
    (rw [hg] at G
     go_enter Tryz.func23, Tryz.ntmps23
     go_wp2_with fail
     refine G.out.mono ?_
     rintro e w1 ⟨rfl, rfl⟩
     go_wp2_with fail
     go_ret
     exact ⟨ret_int (by simp [upU, hg]), rfl⟩)
end Go.Proofs.YtfbbieecdenlbaaGreatDoor
