/-
  html: what a byte is.
-/
import Derived.Test.YtpohopmggpiomaaDoorSegs
import Derived.Deep.RegionWith
import Derived.Lib.ConvBytes
namespace Go.Proofs.YtpohopmggpiomaaDoor
open Go.RowKit

def letP (c : Int) : Bool := (decide (97 ≤ c) && decide (c ≤ 122)) || (decide (65 ≤ c) && decide (c ≤ 90))
def namP (c : Int) : Bool := letP c || (decide (48 ≤ c) && decide (c ≤ 57)) || c == 45
def blaP (c : Int) : Bool := c == 32 || (c == 9 || (c == 10 || (c == 13 || c == 12)))

theorem letter_any (c : Int) (w : World) (h0 : 0 ≤ c) (h1 : c ≤ 255) :
    Calls Tryd.prog 66 #[.int .u8 c] w fun e w' => e = .returned (.bool (letP c)) ∧ w = w' := by
  by_cases a1 : 97 ≤ c <;> by_cases a2 : c ≤ 122 <;> by_cases a3 : 65 ≤ c <;> by_cases a4 : c ≤ 90
  all_goals
    first
    | (exfalso; omega)
    | (go_enter Tryd.func66, Tryd.ntmps66
       go_wp2
       go_ret
       exact ⟨ret_bool (by simp [letP, a1, a2, a3, a4]), rfl⟩)

theorem blank_any (c : Int) (w : World) (h0 : 0 ≤ c) (h1 : c ≤ 255) :
    Calls Tryd.prog 71 #[.int .u8 c] w fun e w' => e = .returned (.bool (blaP c)) ∧ w = w' := by
  have c0 : (0 : Int) ≤ c ∧ c ≤ 255 := ⟨h0, h1⟩
  cases e1 : (c == 32) <;> cases e2 : (c == 9) <;> cases e3 : (c == 10) <;> cases e4 : (c == 13) <;> cases e5 : (c == 12)
  all_goals
    (go_enter Tryd.func71, Tryd.ntmps71
     go_wp2
     go_ret
     exact ⟨ret_bool (by simp [blaP, e1, e2, e3, e4, e5]), rfl⟩)
def relP (c : Int) : Bool := blaP c || c == 47
def keyP (c : Int) : Bool := !blaP c && !(c == 47) && !(c == 62) && !(c == 61)
def valP (c : Int) : Bool := !blaP c && !(c == 62)

theorem name_any (c : Int) (w : World) (h0 : 0 ≤ c) (h1 : c ≤ 255) :
    Calls Tryd.prog 69 #[.int .u8 c] w fun e w' => e = .returned (.bool (namP c)) ∧ w = w' := by
  have L := Lib.hid (letter_any c w h0 h1)
  by_cases a1 : 48 ≤ c <;> by_cases a2 : c ≤ 57 <;> by_cases e1 : c = 45 <;> cases hl : letP c
  all_goals
    first
    | (exfalso; omega)
    | ((try subst e1)
       (try subst e2)
       (try subst e3)
       rw [hl] at L
       go_enter Tryd.func69, Tryd.ntmps69
       go_wp2_with fail
       refine L.out.mono ?_
       rintro e w1 ⟨rfl, rfl⟩
       go_wp2_with fail
       go_ret
       exact ⟨ret_bool (by simp_all [namP]), rfl⟩)

theorem rel_any (c : Int) (w : World) (h0 : 0 ≤ c) (h1 : c ≤ 255) :
    Calls Tryd.prog 70 #[.int .u8 c] w fun e w' => e = .returned (.bool (relP c)) ∧ w = w' := by
  have L := Lib.hid (blank_any c w h0 h1)
  by_cases e1 : c = 47 <;> cases hl : blaP c
  all_goals
    first
    | (exfalso; omega)
    | ((try subst e1)
       (try subst e2)
       (try subst e3)
       rw [hl] at L
       go_enter Tryd.func70, Tryd.ntmps70
       go_wp2_with fail
       refine L.out.mono ?_
       rintro e w1 ⟨rfl, rfl⟩
       go_wp2_with fail
       go_ret
       exact ⟨ret_bool (by simp_all [relP]), rfl⟩)

theorem key_any (c : Int) (w : World) (h0 : 0 ≤ c) (h1 : c ≤ 255) :
    Calls Tryd.prog 84 #[.int .u8 c] w fun e w' => e = .returned (.bool (keyP c)) ∧ w = w' := by
  have L := Lib.hid (blank_any c w h0 h1)
  by_cases e1 : c = 47 <;> by_cases e2 : c = 62 <;> by_cases e3 : c = 61 <;> cases hl : blaP c
  all_goals
    first
    | (exfalso; omega)
    | ((try subst e1)
       (try subst e2)
       (try subst e3)
       rw [hl] at L
       go_enter Tryd.func84, Tryd.ntmps84
       go_wp2_with fail
       refine L.out.mono ?_
       rintro e w1 ⟨rfl, rfl⟩
       go_wp2_with fail
       go_ret
       exact ⟨ret_bool (by simp_all [keyP, bne]), rfl⟩)

theorem val_any (c : Int) (w : World) (h0 : 0 ≤ c) (h1 : c ≤ 255) :
    Calls Tryd.prog 85 #[.int .u8 c] w fun e w' => e = .returned (.bool (valP c)) ∧ w = w' := by
  have L := Lib.hid (blank_any c w h0 h1)
  by_cases e1 : c = 62 <;> cases hl : blaP c
  all_goals
    first
    | (exfalso; omega)
    | ((try subst e1)
       (try subst e2)
       (try subst e3)
       rw [hl] at L
       go_enter Tryd.func85, Tryd.ntmps85
       go_wp2_with fail
       refine L.out.mono ?_
       rintro e w1 ⟨rfl, rfl⟩
       go_wp2_with fail
       go_ret
       exact ⟨ret_bool (by simp_all [valP, bne]), rfl⟩)
end Go.Proofs.YtpohopmggpiomaaDoor
